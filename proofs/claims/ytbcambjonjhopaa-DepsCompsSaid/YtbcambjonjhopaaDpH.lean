/-
  R15: Reach: the tables that one leads to.
  R23: meets, Touched, meet, Dirty, Comp.
-/
import Derived.Test.YtbcambjonjhopaaDpF
namespace Go.Proofs.Ytbcambjonjhopaa
section
open Go Go.RowKit

theorem infoBool23 : (Try.prog.info? 4).map (fun i => (i.zero, i.size, i.bytes)) = some (some (.bool false), 1, 1) := by kernel_rfl
def natsZ (l : List Nat) : List Int := l.map fun n : Nat => (n : Int)
theorem natsZ_len (l : List Nat) : (natsZ l).length = l.length := List.length_map ..
theorem natsZ_snoc (l : List Nat) (n : Nat) : natsZ (l ++ [n]) = natsZ l ++ [(n : Int)] := by unfold natsZ; rw [List.map_append]; rfl
theorem natsZ_get {l : List Nat} {k : Nat} (h : k < l.length) : (natsZ l)[k]'(by rw [natsZ_len]; exact h) = (l[k] : Int) := by simp [natsZ]
theorem natsZ_mem {l : List Nat} {n : Nat} : (n : Int) ∈ natsZ l ↔ n ∈ l := by
  unfold natsZ
  rw [List.mem_map]
  exact ⟨fun ⟨m, h, e⟩ => by obtain rfl : m = n := by omega
                             exact h, fun h => ⟨n, h, rfl⟩⟩
theorem natsZ_inj {l m : List Nat} : natsZ l = natsZ m ↔ l = m := by
  refine ⟨fun h => ?_, fun h => by rw [h]⟩
  refine List.ext_getElem (by rw [← natsZ_len l, h, natsZ_len]) fun i h1 h2 => ?_
  have h3 := natsZ_get h1
  have h4 := natsZ_get h2
  simp only [h] at h3
  rw [h3] at h4
  exact Int.ofNat.inj h4
/-- The links lead from tables to tables. -/
def RngR (r : Res) : Prop := ∀ e ∈ r.lks, 0 ≤ e.1 ∧ e.1 < r.tabs.length ∧ 0 ≤ e.2 ∧ e.2 < r.tabs.length
def edgL (r : Res) : List (Nat × Nat) := r.lks.map fun e => (e.1.toNat, e.2.toNat)
theorem edgL_len (r : Res) : (edgL r).length = r.lks.length := List.length_map ..
theorem edgL_at {r : Res} (h : RngR r) {j : Nat} (hj : j < r.lks.length) : ∃ a b : Nat, r.lks[j].1 = (a : Int) ∧ r.lks[j].2 = (b : Int) ∧ (edgL r)[j]'(by rw [edgL_len]; exact hj) = (a, b) ∧ a < r.tabs.length ∧ b < r.tabs.length := by
  obtain ⟨h1, h2, h3, h4⟩ := h _ (List.getElem_mem hj)
  refine ⟨r.lks[j].1.toNat, r.lks[j].2.toNat, by omega, by omega, by simp [edgL], by omega, by omega⟩
theorem edgL_gr {r : Res} (h : RngR r) : GrL (edgL r) r.tabs.length := ⟨fun e he => by
  obtain ⟨j, hj, rfl⟩ := List.mem_iff_getElem.1 he
  rw [edgL_len] at hj
  obtain ⟨a, b, -, -, e, h1, h2⟩ := edgL_at h hj
  rw [e]; exact ⟨h1, h2⟩⟩
theorem sweep1_succ {L : List (Nat × Nat)} {s : List Bool} {j : Nat} (h : j < L.length) : (L.take (j + 1)).foldl sw1 s = sw1 ((L.take j).foldl sw1 s) L[j] := by
  rw [List.take_succ_eq_append_getElem h, List.foldl_append]; rfl
/-- The marks below a number. -/
def marksL (s : List Bool) (k : Nat) : List Nat := (List.range k).filter (mkB s)
theorem marksL_yes {s : List Bool} {k : Nat} (h : mkB s k = true) : marksL s (k + 1) = marksL s k ++ [k] := by
  unfold marksL; rw [List.range_succ, List.filter_append, List.filter_cons_of_pos h]; rfl
theorem marksL_no {s : List Bool} {k : Nat} (h : mkB s k = false) : marksL s (k + 1) = marksL s k := by
  unfold marksL; rw [List.range_succ, List.filter_append, List.filter_cons_of_neg (by rw [h]; simp), List.filter_nil, List.append_nil]
theorem marksL_len (s : List Bool) (k : Nat) : (marksL s k).length ≤ k := by
  have := List.length_filter_le (mkB s) (List.range k)
  rw [List.length_range] at this; exact this

set_option maxHeartbeats 12800000 in
set_option maxRecDepth 100000 in
theorem ReachR_spec {S : Nat → Prop} {w : World} {v : Value} {r : Res} {n : Nat} (hr : ResV S w v r) (hrg : RngR r) (hn : n < r.tabs.length) (hlt : r.tabs.length ≤ 1000) (hlk : r.lks.length ≤ 1000) :
    Calls Try.prog 9 #[v, .int .i64 n] w (Ret (fun o w' => Seq intE (fun b => w.heap.size ≤ b) w' o (natsZ (reachL (edgL r) r.tabs.length n))) w) := by
  obtain ⟨ta, tc, ia, il, ic, la, lc, rfl, hT, hE⟩ := hr
  obtain ⟨W, hW⟩ : ∃ W, W = w.alloc (.cells #[.slice ta r.tabs.length tc, .slice ia il ic, .slice la r.lks.length lc] 26) := ⟨_, rfl⟩
  have HBW := Lib.hid (show Below w.heap.size w W by rw [hW]; exact Seq.way)
  have HT := Lib.hid (hT.any.at HBW.out)
  have HE := Lib.hid (hE.any.at HBW.out)
  have HW := Lib.hid hW
  obtain ⟨bt, hbt⟩ : ∃ b, b = w.heap.size := ⟨_, rfl⟩
  have Hbt := Lib.hid hbt
  have HR := Lib.hid (show RowA 26 W bt [.slice ta r.tabs.length tc, .slice ia il ic, .slice la r.lks.length lc] by rw [hW, hbt]; exact Row.new w [_, _, _] _ rfl)
  have Kr := fun {W' : World} (h : Below W.heap.size W W') => Lib.hid (show W'.cell? ⟨bt, 0, none⟩ = some (.slice ta r.tabs.length tc) ∧ W'.cell? ⟨bt, 1, none⟩ = some (.slice ia il ic) ∧ W'.cell? ⟨bt, 2, none⟩ = some (.slice la r.lks.length lc) ∧ bt < W'.heap.size from
    ⟨(HR.out.at h).row.cell (j := 0) (by simp), (HR.out.at h).row.cell (j := 1) (by simp), (HR.out.at h).row.cell (j := 2) (by simp), (HR.out.at h).row.lt⟩)
  clear hT hE hW hbt
  obtain ⟨N, hN⟩ : ∃ N, N = r.tabs.length := ⟨_, rfl⟩
  have HN := Lib.hid hN
  rw [← hN] at hn hlt HT HW HR Kr ⊢
  clear hN
  obtain ⟨M, hM⟩ : ∃ N, N = r.lks.length := ⟨_, rfl⟩
  have HM := Lib.hid hM
  rw [← hM] at hlk HE HW HR Kr ⊢
  clear hM
  have hnI : (n : Int) < (N : Int) := by omega
  have hn0 : (0 : Int) ≤ (n : Int) := by omega
  have hng : ((n : Int) < 0) = False := eq_false (by omega)
  have hnh : ((N : Int) ≤ (n : Int)) = False := eq_false (by omega)
  have Hrg := Lib.hid hrg
  have hmk := run_make_row' (P := Try.prog) 51 4 (.bool false) 1 Try.underlying51 infoBool23 rfl .i64 .i64 N (by omega) (by omega)
  clear hrg
  go_enter Try.func9, Try.ntmps9
  go_upto_region 1 with fail
  rw [← HW.out, ← Hbt.out]
  obtain ⟨r0, r1, r2, rl⟩ := (Kr (Below.refl _ W)).out
  go_upto_region 4 with fail
  clear hmk
  have hR0 := Lib.hid (RowB.made W N 4 rfl)
  have hB0 := Lib.hid (Seq.way : Below W.heap.size W (W.alloc (.cells (madeCells #[.bool false] N) 4)))
  obtain ⟨W2, hW2⟩ : ∃ X, X = W.alloc (.cells (madeCells #[.bool false] N) 4) := ⟨_, rfl⟩
  obtain ⟨g, hg⟩ : ∃ g, g = W.heap.size := ⟨_, rfl⟩
  rw [← hW2] at hR0 hB0 ⊢
  rw [← hg] at hR0 ⊢
  have hgW : W.heap.size ≤ g := by omega
  have hR1 := Lib.hid (hR0.out.set n true)
  have hB1 := Lib.hid (show Below W.heap.size W (W2.setCell ⟨g, n, none⟩ (.bool true)) from hB0.out.setCell hgW _)
  have e1 := hR0.out.cell (j := n) (by simpa using hn)
  have e2 := hR0.out.frozen n
  generalize (List.replicate N false)[n]'(by simpa using hn) = old at e1
  have hS0 := Lib.hid (show (List.replicate N false).set n true = sweepN (edgL r) 0 ((List.replicate N false).set n true) from rfl)
  have hsl := Lib.hid (fun m => (sweepN_len (edgL r) m ((List.replicate N false).set n true)).trans (by simp : ((List.replicate N false).set n true).length = N))
  have hdef := Lib.hid (show reachL (edgL r) N n = marksL (sweepN (edgL r) N ((List.replicate N false).set n true)) N from rfl)
  obtain ⟨s0, hs0⟩ : ∃ s, s = (List.replicate N false).set n true := ⟨_, rfl⟩
  rw [← hs0] at hR1 hS0 hsl hdef
  clear hR0 hB0 hW2 hg r0 r1 r2 rl hs0
  go_wp2_with fail
  clear e1 e2
  go_loopw [6] (fun i wr => ∃ j : Nat, j ≤ M ∧ i = .int .i64 j ∧ Hid (RowB 4 wr g s0) ∧ Hid (Below W.heap.size W wr)) (fun i _ => M - (intOf i).toNat)
  case atStart => exact ⟨0, Nat.zero_le _, rfl, hR1, hB1⟩
  case round =>
    obtain ⟨j, hj, rfl, hR, hb⟩ := hrel
    obtain ⟨r0, r1, r2, rl⟩ := (Kr hb.out).out
    by_cases hjl : j < M
    · obtain ⟨_, _, ee, -, -, -, -, x5⟩ := HE.out.at hb.out
      simp only [Value.slice.injEq] at ee
      obtain ⟨rfl, -, rfl⟩ := ee
      obtain ⟨b1, o1, rfl, -, l1, c0, c1, -, -⟩ := x5.edg (k := j) (by rw [← HM.out]; exact hjl)
      obtain ⟨a, b, ha, hb2, -, h1, h2⟩ := edgL_at Hrg.out (j := j) (by rw [← HM.out]; exact hjl)
      rw [← HN.out] at h1 h2
      rw [ha] at c0
      rw [hb2] at c1
      have hjI : (j : Int) < (M : Int) := by omega
      have hj0 : (0 : Int) ≤ (j : Int) := by omega
      have g0 : ((a : Int) < 0) = False := eq_false (by omega)
      have g1 : ((N : Int) ≤ (a : Int)) = False := eq_false (by omega)
      have g2 : ((b : Int) < 0) = False := eq_false (by omega)
      have g3 : ((N : Int) ≤ (b : Int)) = False := eq_false (by omega)
      have g4 : (N ≤ a) = False := eq_false (by omega)
      have g5 : (N ≤ b) = False := eq_false (by omega)
      clear x5 ha hb2
      go_wp2_with fail
      go_roundw
      case rel => exact ⟨j + 1, hjl, by go_num, hR, hb⟩
      case measure => simp [intOf]; omega
    · have hjI : ¬ (j : Int) < (M : Int) := by omega
      clear hjl
      go_wp2_with fail
      go_loopw [7] (fun i wz => ∃ m : Nat, m ≤ N ∧ i = .int .i64 m ∧ Hid (RowB 4 wz g (sweepN (edgL r) m s0)) ∧ Hid (Below W.heap.size W wz)) (fun i _ => N - (intOf i).toNat)
      case atStart => exact ⟨0, Nat.zero_le _, rfl, Lib.hid (by rw [← hS0.out]; exact hR.out), hb⟩
      case round =>
        obtain ⟨m, hm, rfl, hRm, hbm⟩ := hrel
        clear r0 r1 r2 rl
        obtain ⟨r0, r1, r2, rl⟩ := (Kr hbm.out).out
        have hm0 : (0 : Int) ≤ (m : Int) := by omega
        by_cases hml : m < N
        · have hmI : (m : Int) < (N : Int) := by omega
          have hl := hsl.out m
          obtain ⟨sm, hsm⟩ : ∃ s, s = sweepN (edgL r) m s0 := ⟨_, rfl⟩
          rw [← hsm] at hRm hl
          have Hsm := Lib.hid hsm
          have Hl := Lib.hid hl
          clear hsm hl
          go_wp2_with fail
          go_loopw [8] (fun i wz => ∃ (j : Nat) (s : List Bool), j ≤ M ∧ i = .int .i64 j ∧ Hid (s = ((edgL r).take j).foldl sw1 sm) ∧ Hid (s.length = N) ∧ Hid (RowB 4 wz g s) ∧ Hid (Below W.heap.size W wz)) (fun i _ => M - (intOf i).toNat)
          case atStart => exact ⟨0, sm, Nat.zero_le _, rfl, Lib.hid rfl, Hl, hRm, hbm⟩
          case round =>
            obtain ⟨j, s, hj, rfl, hse, hsn, hRz, hbz⟩ := hrel
            clear r0 r1 r2 rl
            obtain ⟨r0, r1, r2, rl⟩ := (Kr hbz.out).out
            by_cases hjl : j < M
            · obtain ⟨_, _, ee, -, -, -, -, x5⟩ := HE.out.at hbz.out
              simp only [Value.slice.injEq] at ee
              obtain ⟨rfl, -, rfl⟩ := ee
              obtain ⟨b1, o1, rfl, -, l1, c0, c1, -, -⟩ := x5.edg (k := j) (by rw [← HM.out]; exact hjl)
              obtain ⟨a, b, ha, hb2, hab, h1, h2⟩ := edgL_at Hrg.out (j := j) (by rw [← HM.out]; exact hjl)
              rw [← HN.out] at h1 h2
              rw [ha] at c0
              rw [hb2] at c1
              have hst := Lib.hid (sweep1_succ (L := edgL r) (s := sm) (j := j) (by rw [edgL_len, ← HM.out]; exact hjl))
              rw [← hse.out, hab] at hst
              have d0 := hRz.out.cell (j := a) (by rw [hsn.out]; exact h1)
              rw [mkB_get] at d0
              have d1 := hRz.out.cell (j := b) (by rw [hsn.out]; exact h2)
              have d2 := hRz.out.frozen b
              generalize s[b]'(by rw [hsn.out]; exact h2) = old2 at d1
              have hset := Lib.hid (hRz.out.set b true)
              have hbst := Lib.hid (show Below W.heap.size W (wr.setCell ⟨g, b, none⟩ (.bool true)) from hbz.out.setCell hgW _)
              have hyes := Lib.hid (show mkB s a = true → sw1 s (a, b) = s.set b true from fun h => by unfold sw1; rw [if_pos h])
              have hnot := Lib.hid (show mkB s a = false → sw1 s (a, b) = s from fun h => by unfold sw1; rw [if_neg (by rw [h]; simp)])
              have hll := Lib.hid (sw1_len s (a, b))
              obtain ⟨q, hq⟩ : ∃ q, q = mkB s a := ⟨_, rfl⟩
              rw [← hq] at d0 hyes hnot
              have hjI : (j : Int) < (M : Int) := by omega
              have hj0 : (0 : Int) ≤ (j : Int) := by omega
              have g0 : (a : Int) < (N : Int) := by omega
              have g1 : (b : Int) < (N : Int) := by omega
              have g2 : (0 : Int) ≤ (a : Int) := by omega
              have g3 : (0 : Int) ≤ (b : Int) := by omega
              clear x5 ha hb2 hab hq
              cases q with
              | false =>
                have hno2 := Lib.hid (hnot.out rfl)
                clear hyes hnot hset hbst d1 d2
                go_wp2_with fail
                go_roundw
                case rel => exact ⟨j + 1, s, hjl, by go_num, Lib.hid (by rw [hst.out, hno2.out]), hsn, hRz, hbz⟩
                case measure => simp [intOf]; omega
              | true =>
                have hy2 := Lib.hid (hyes.out rfl)
                clear hyes hnot
                go_wp2_with fail
                go_roundw
                case rel => exact ⟨j + 1, sw1 s (a, b), hjl, by go_num, Lib.hid hst.out.symm, Lib.hid (hll.out.trans hsn.out), Lib.hid (by rw [hy2.out]; exact hset.out), hbst⟩
                case measure => simp [intOf]; omega
            · have hje := Lib.hid (show s = sweepN (edgL r) (m + 1) s0 by
                rw [hse.out, List.take_of_length_le (by rw [edgL_len, ← HM.out]; omega), Hsm.out]; rfl)
              have hjI : ¬ (j : Int) < (M : Int) := by omega
              clear hjl
              go_wp2_with fail
              go_roundw
              case rel => exact ⟨m + 1, by omega, by go_num, Lib.hid (by rw [← hje.out]; exact hRz.out), hbz⟩
              case measure => simp [intOf]; omega
        · have hme := Lib.hid (show m = N by omega)
          have hmI : ¬ (m : Int) < (N : Int) := by omega
          rw [hme.out] at hRm
          have hl := Lib.hid (hsl.out N)
          obtain ⟨s, hs⟩ : ∃ s, s = sweepN (edgL r) N s0 := ⟨_, rfl⟩
          rw [← hs] at hRm hdef hl
          obtain ⟨wq, rfl⟩ : ∃ Z, Z = wr := ⟨_, rfl⟩
          have hgl := hRm.out.lt
          clear hml hs r0 r1 r2 rl
          obtain ⟨r0, r1, r2, rl⟩ := (Kr hbm.out).out
          go_wp2_with fail
          have hown0 := Lib.hid (show Own intE (fun _ => False) wq.heap.size 3 (wq.alloc (.cells #[] 3)) (.slice (some ⟨wq.heap.size, 0, none⟩) 0 0) (natsZ (marksL s 0)) from Own.lit0 rfl (Nat.le_refl _) rfl)
          go_loopw [9, 10] (fun o i wz => ∃ k : Nat, k ≤ N ∧ i = .int .i64 k ∧ Hid (Own intE (fun _ => False) wq.heap.size 3 wz o (natsZ (marksL s k))) ∧ Hid (Below wq.heap.size wq wz)) (fun _ i _ => N - (intOf i).toNat)
          case atStart => exact ⟨0, Nat.zero_le _, rfl, hown0, Lib.hid Seq.way⟩
          case round =>
            obtain ⟨k, hk, rfl, hown, hbz⟩ := hrel
            have hzr := hbz.out.size
            have hln := marksL_len s k
            have hln2 := natsZ_len (marksL s k)
            have hsq := Lib.hid (hown.out.seq (S := fun _ => False) (T := fun _ => True) (by omega) fun _ _ _ => trivial)
            obtain ⟨oa, oc, rfl⟩ := hsq.out.shape
            by_cases hkl : k < N
            · have e0 := hRm.out.cell (j := k) (by rw [hl.out]; exact hkl)
              rw [mkB_get] at e0
              replace e0 : wr.cell? ⟨g, k, none⟩ = _ := (hbz.out.cell (p := ⟨g, k, none⟩) hgl).trans e0
              have hy := Lib.hid (show mkB s k = true → natsZ (marksL s (k + 1)) = natsZ (marksL s k) ++ [(k : Int)] from fun h => by rw [marksL_yes h, natsZ_snoc])
              have hno := Lib.hid (show mkB s k = false → natsZ (marksL s (k + 1)) = natsZ (marksL s k) from fun h => by rw [marksL_no h])
              obtain ⟨q, hq⟩ : ∃ q, q = mkB s k := ⟨_, rfl⟩
              rw [← hq] at e0 hy hno
              have hkI : (k : Int) < (N : Int) := by omega
              have hk0 : (0 : Int) ≤ (k : Int) := by omega
              clear hq
              cases q with
              | false =>
                have hno2 := Lib.hid (hno.out rfl)
                clear hy hno
                go_wp2_with fail
                go_roundw
                case rel => exact ⟨k + 1, hkl, by go_num, Lib.hid (by rw [hno2.out]; exact hown.out), hbz⟩
                case measure => simp [intOf]; omega
              | true =>
                have hy2 := Lib.hid (hy.out rfl)
                clear hy hno
                go_wp2_with (at_builtin; refine wpList_app_int rfl _ _ 31 rfl Try.underlying31 infoInt rfl hown.out rfl (y := (k : Int)) Seq.way ⟨by omega, by omega⟩ ?_ ?_ ?_ ?_)
                · go_simp
                · omega
                · exact hzr
                · intro ao cap w' hown' hkept
                  have H' := Lib.hid hown'
                  have K' := Lib.hid (hbz.out.trans (Below.trans (Below.mono (Seq.way : Below wr.heap.size wr _) hzr) hkept.below))
                  clear hown' hkept
                  go_wp2_with fail
                  go_roundw
                  case rel => exact ⟨k + 1, hkl, by go_num, Lib.hid (by rw [hy2.out]; simpa using H'.out), K'⟩
                  case measure => simp [intOf]; omega
            · have hkI : ¬ (k : Int) < (N : Int) := by omega
              have hke := Lib.hid (show k = N by omega)
              have hfin := Lib.hid (show Seq intE (fun b => w.heap.size ≤ b) wr (.slice oa (natsZ (marksL s k)).length oc) (natsZ (reachL (edgL r) N n)) by
                rw [hdef.out, ← hke.out]
                have h1 := HBW.out.size
                have h2 := hbm.out.size
                exact hown.out.seq (by omega) fun b _ hb => hb.elim False.elim fun h => by omega)
              have hbel := Lib.hid (below_step hbz.out (below_step hbm.out HBW.out))
              clear hkl
              go_wp2_with fail
              go_ret
              exact ⟨_, rfl, hbel.out, by have h := hfin.out; rw [natsZ_len] at h; exact h⟩
end
section
open Go Go.RowKit

/-- The numbers below one of which something is so. -/
def fltN (f : Nat → Bool) (k : Nat) : List Nat := (List.range k).filter f
theorem fltN_yes {f : Nat → Bool} {k : Nat} (h : f k = true) : natsZ (fltN f (k + 1)) = natsZ (fltN f k) ++ [(k : Int)] := by
  unfold fltN; rw [List.range_succ, List.filter_append, List.filter_cons_of_pos h, List.filter_nil, natsZ_snoc]
theorem fltN_no {f : Nat → Bool} {k : Nat} (h : f k = false) : natsZ (fltN f (k + 1)) = natsZ (fltN f k) := by
  unfold fltN; rw [List.range_succ, List.filter_append, List.filter_cons_of_neg (by rw [h]; simp), List.filter_nil, List.append_nil]
theorem fltN_len (f : Nat → Bool) (k : Nat) : (natsZ (fltN f k)).length ≤ k := by
  rw [natsZ_len]
  have := List.length_filter_le f (List.range k)
  rw [List.length_range] at this; exact this
theorem fltN_mem {f : Nat → Bool} {k j : Nat} : j ∈ fltN f k ↔ j < k ∧ f j = true := by
  unfold fltN; rw [List.mem_filter, List.mem_range]
def meetsB (p : List Cell) (c : List (List Cell)) : Bool := c.any (matchB p)
theorem meetsB_yes {p : List Cell} {c : List (List Cell)} {k : Nat} (hk : k < c.length) (h : matchB p c[k] = true) : meetsB p c = true := List.any_eq_true.2 ⟨_, List.getElem_mem hk, h⟩
theorem meetsB_no {p : List Cell} {c : List (List Cell)} (h : ∀ j (hj : j < c.length), matchB p c[j] = false) : meetsB p c = false := by
  unfold meetsB
  rw [List.any_eq_false]
  intro x hx
  obtain ⟨j, hj, rfl⟩ := List.mem_iff_getElem.1 hx
  rw [h j hj]; simp
def tchB (r : Res) (c : List (List Cell)) (i : Nat) : Bool := match r.tabs[i]? with
  | none => false
  | some t => meetsB t.call c
theorem tchB_at {r : Res} {c : List (List Cell)} {i : Nat} (h : i < r.tabs.length) : tchB r c i = meetsB r.tabs[i].call c := by
  unfold tchB; rw [List.getElem?_eq_getElem h]
/-- The tables that a change meets. -/
def touchL (r : Res) (c : List (List Cell)) : List Nat := fltN (tchB r c) r.tabs.length
/-- Have two rows a number in common? -/
def meetB (a b : List Int) : Bool := a.any fun x => decide (x ∈ b)
theorem meetB_yes {a b : List Int} {k : Nat} (hk : k < a.length) (h : decide (a[k] ∈ b) = true) : meetB a b = true := List.any_eq_true.2 ⟨_, List.getElem_mem hk, h⟩
theorem meetB_no {a b : List Int} (h : ∀ j (hj : j < a.length), decide (a[j] ∈ b) = false) : meetB a b = false := by
  unfold meetB
  rw [List.any_eq_false]
  intro x hx
  obtain ⟨j, hj, rfl⟩ := List.mem_iff_getElem.1 hx
  rw [h j hj]; simp
def reaL (r : Res) (i : Nat) : List Nat := reachL (edgL r) r.tabs.length i
def drtB (r : Res) (c : List (List Cell)) (i : Nat) : Bool := meetB (natsZ (reaL r i)) (natsZ (touchL r c))
/-- The tables that lean on what a change meets. -/
def dirtyL (r : Res) (c : List (List Cell)) : List Nat := fltN (drtB r c) r.tabs.length
def cmpoL (r : Res) (i : Nat) : List Nat := compL (edgL r) r.tabs.length i
/-- Facts that changed. -/
def ChgOK (c : List (List Cell)) : Prop := c.length ≤ 1000 ∧ ∀ t ∈ c, RightT t




end
end Go.Proofs.Ytbcambjonjhopaa
