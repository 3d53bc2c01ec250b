/-
  R14: Few, Right: whether tables may be so.
  R23: May: whether a result may be.
-/
import Derived.Test.YtckkjjiaecnciaaGreatDpD
namespace Go.Proofs.YtckkjjiaecnciaaGreat
section
open Go Go.RowKit

theorem fewT_no {t : Tab} {k : Nat} (hk : k < t.ans.length) (h : 210 < t.ans[k].length) : fewT t = false := by
  unfold fewT
  have : (t.ans.all fun a => decide (a.length ≤ 210)) = false := by
    rw [List.all_eq_false]
    exact ⟨_, List.getElem_mem hk, by simpa using h⟩
  rw [this]; simp
theorem fewT_yes {t : Tab} (h1 : t.call.length ≤ 210) (h2 : t.ans.length ≤ 30) (h : ∀ j (hj : j < t.ans.length), t.ans[j].length ≤ 210) : fewT t = true := by
  unfold fewT
  simp only [Bool.and_eq_true, decide_eq_true_eq, List.all_eq_true]
  exact ⟨⟨h1, h2⟩, fun a ha => by obtain ⟨j, hj, rfl⟩ := List.mem_iff_getElem.1 ha; exact h j hj⟩
theorem fewB_no {s : List Tab} {k : Nat} (hk : k < s.length) (h : fewT s[k] = false) : fewB s = false := by
  unfold fewB
  have : s.all fewT = false := by
    rw [List.all_eq_false]
    exact ⟨_, List.getElem_mem hk, by rw [h]; simp⟩
  rw [this]; simp
theorem fewB_yes {s : List Tab} (h1 : s.length ≤ 30) (h : ∀ j (hj : j < s.length), fewT s[j] = true) : fewB s = true := by
  unfold fewB
  simp only [Bool.and_eq_true, decide_eq_true_eq, List.all_eq_true]
  exact ⟨h1, fun a ha => by obtain ⟨j, hj, rfl⟩ := List.mem_iff_getElem.1 ha; exact h j hj⟩
theorem fewB_at {s : List Tab} (h : fewB s = true) : s.length ≤ 30 ∧ ∀ t ∈ s, t.call.length ≤ 210 ∧ t.ans.length ≤ 30 ∧ ∀ a ∈ t.ans, a.length ≤ 210 := by
  unfold fewB fewT at h
  simp only [Bool.and_eq_true, decide_eq_true_eq, List.all_eq_true] at h
  exact ⟨h.1, fun t ht => ⟨(h.2 t ht).1.1, (h.2 t ht).1.2, (h.2 t ht).2⟩⟩

set_option maxHeartbeats 3200000 in
set_option maxRecDepth 100000 in
theorem FewR14_spec {S : Nat → Prop} {w : World} {v : Value} {s : List Tab} (hs : Seq tabE S w v s) :
    Calls Tryz.prog 8 #[v] w (PureV (.bool (fewB s)) w) := by
  have HS := Lib.hid hs
  obtain ⟨aa, ac, rfl⟩ := hs.shape
  clear hs
  go_enter Tryz.func8, Tryz.ntmps8
  by_cases h30 : s.length ≤ 30
  · have h30' : ((30 : Int) < (s.length : Int)) = False := by simp; omega
    have h30'' : ((s.length : Int) > 30) = False := by simp; omega
    go_wp2_with fail
    go_loopw [3] (fun i wr => ∃ k : Nat, k ≤ s.length ∧ i = .int .i64 k ∧ Hid (∀ j (h : j < s.length), j < k → fewT s[j] = true) ∧ w = wr) (fun i _ => s.length - (intOf i).toNat)
    case atStart => exact ⟨0, Nat.zero_le _, rfl, Lib.hid (fun i _ h => absurd h (Nat.not_lt_zero _)), rfl⟩
    case round =>
      obtain ⟨k, hk, rfl, hno, rfl⟩ := hrel
      by_cases hlt : k < s.length
      · obtain ⟨_, _, ee, -, -, -, -, x5⟩ := HS.out
        simp only [Value.slice.injEq, true_and] at ee
        obtain ⟨rfl, rfl⟩ := ee
        obtain ⟨b1, o1, ca, cc, la, lc, rfl, -, -, c0, c1, -, hA⟩ := x5.tab hlt
        have hfn := Lib.hid (show fewT s[k] = false → fewB s = false from fun h => fewB_no hlt h)
        have hfy := Lib.hid (show fewT s[k] = true → ∀ i (h : i < s.length), i < k + 1 → fewT s[i] = true from fun h i hi hlt => by
          by_cases e : i = k
          · subst e; exact h
          · exact hno.out i hi (by omega))
        have HA := Lib.hid hA
        obtain ⟨t, ht⟩ : ∃ t, t = s[k] := ⟨_, rfl⟩
        rw [← ht] at c0 c1 HA hfn hfy
        clear ht x5 hA
        have hkl : (k : Int) < (s.length : Int) := by omega
        have hk0 : (0 : Int) ≤ (k : Int) := by omega
        by_cases hc : t.call.length ≤ 210
        · have hc' : ((210 : Int) < (t.call.length : Int)) = False := by simp; omega
          have hc'' : ((t.call.length : Int) > 210) = False := by simp; omega
          have hcN : (210 < t.call.length) = False := by simp; omega
          have Hc := Lib.hid hc
          by_cases ha : t.ans.length ≤ 30
          · have ha' : ((30 : Int) < (t.ans.length : Int)) = False := by simp; omega
            have ha'' : ((t.ans.length : Int) > 30) = False := by simp; omega
            have haN : (30 < t.ans.length) = False := by simp; omega
            go_wp2_with fail
            go_loopw [4] (fun i wr => ∃ q : Nat, q ≤ t.ans.length ∧ i = .int .i64 q ∧ Hid (∀ j (h : j < t.ans.length), j < q → t.ans[j].length ≤ 210) ∧ w = wr) (fun i _ => t.ans.length - (intOf i).toNat)
            case atStart => exact ⟨0, Nat.zero_le _, rfl, Lib.hid (fun i _ h => absurd h (Nat.not_lt_zero _)), rfl⟩
            case round =>
              obtain ⟨q, hq, rfl, hqo, rfl⟩ := hrel
              by_cases hqt : q < t.ans.length
              · obtain ⟨_, _, ee, -, -, -, -, y5⟩ := HA.out
                simp only [Value.slice.injEq, true_and] at ee
                obtain ⟨rfl, rfl⟩ := ee
                obtain ⟨b2, o2, p2, n2, rfl, -, -, d0, -⟩ := y5.seq hqt
                have hn := Lib.hid (show 210 < t.ans[q].length → fewT t = false from fun h => fewT_no hqt h)
                have hy := Lib.hid (show t.ans[q].length ≤ 210 → ∀ i (h : i < t.ans.length), i < q + 1 → t.ans[i].length ≤ 210 from fun h i hi hlt => by
                  by_cases e : i = q
                  · subst e; exact h
                  · exact hqo.out i hi (by omega))
                obtain ⟨x, hx⟩ : ∃ x, x = t.ans[q] := ⟨_, rfl⟩
                rw [← hx] at d0 hn hy
                clear hx y5
                have hqI : (q : Int) < (t.ans.length : Int) := by omega
                have hq0 : (0 : Int) ≤ (q : Int) := by omega
                by_cases hx : x.length ≤ 210
                · have hy' := Lib.hid (hy.out hx)
                  have hx' : ((210 : Int) < (x.length : Int)) = False := by simp; omega
                  have hx'' : ((x.length : Int) > 210) = False := by simp; omega
                  have hxN : (210 < x.length) = False := by simp; omega
                  clear hy hn hx
                  go_wp2_with fail
                  go_roundw
                  case rel => exact ⟨q + 1, hqt, by go_num, hy', trivial⟩
                  case measure => simp [intOf]; omega
                · have hn' := Lib.hid (hfn.out (hn.out (by omega)))
                  have hx' : (210 : Int) < (x.length : Int) := by omega
                  have hxN : 210 < x.length := by omega
                  clear hy hn hx
                  go_wp2_with fail
                  go_ret
                  exact ⟨ret_bool hn'.out.symm, rfl⟩
              · have hqI : ¬ (q : Int) < (t.ans.length : Int) := by omega
                have hy' := Lib.hid (hfy.out (fewT_yes Hc.out ha fun j hj => hqo.out j hj (by omega)))
                clear hqt hqo
                go_wp2_with fail
                go_roundw
                case rel => exact ⟨k + 1, hlt, by go_num, hy', trivial⟩
                case measure => simp [intOf]; omega
          · have ha' : (30 : Int) < (t.ans.length : Int) := by omega
            have haN : 30 < t.ans.length := by omega
            have hn' := Lib.hid (hfn.out (by unfold fewT; rw [decide_eq_false ha]; simp))
            clear ha
            go_wp2_with fail
            go_ret
            exact ⟨ret_bool hn'.out.symm, rfl⟩
        · have hc' : (210 : Int) < (t.call.length : Int) := by omega
          have hcN : 210 < t.call.length := by omega
          have hn' := Lib.hid (hfn.out (by unfold fewT; rw [decide_eq_false hc]; simp))
          clear hc
          go_wp2_with fail
          go_ret
          exact ⟨ret_bool hn'.out.symm, rfl⟩
      · have hkl : ¬ (k : Int) < (s.length : Int) := by omega
        have hd := Lib.hid (fewB_yes h30 fun j hj => hno.out j hj (by omega))
        clear hlt
        go_wp2_with fail
        go_ret
        exact ⟨ret_bool hd.out.symm, rfl⟩
  · have h30' : (30 : Int) < (s.length : Int) := by omega
    have h30N : 30 < s.length := by omega
    have hd := Lib.hid (show fewB s = false by unfold fewB; rw [decide_eq_false h30]; rfl)
    clear h30
    go_wp2_with fail
    go_ret
    exact ⟨ret_bool hd.out.symm, rfl⟩

theorem tabOK_at {s : List Tab} {i : Nat} (hi : i < s.length) : tabOK s i = (atomT' s[i].call && decide (numT s[i].call = s[i].call) && decide (findTb s s[i].call = (i : Int)) && (List.range s[i].ans.length).all (ansOK s[i])) := by
  unfold tabOK; rw [List.getElem?_eq_getElem hi]
theorem ansOK_at {t : Tab} {k : Nat} (hk : k < t.ans.length) : ansOK t k = (instB t.call t.ans[k] && !hasT (t.ans.take k) t.ans[k]) := by
  unfold ansOK; rw [List.getElem?_eq_getElem hk]

set_option maxHeartbeats 6400000 in
set_option maxRecDepth 100000 in
theorem RightR14_spec {S : Nat → Prop} {w : World} {v : Value} {s : List Tab} (hs : Seq tabE S w v s) (hfew : fewB s = true) :
    Calls Tryz.prog 10 #[v] w (RetV (.bool (rightTs s)) w) := by
  have HF := Lib.hid (fewB_at hfew)
  have HS := Lib.hid hs
  have hll : s.length ≤ 30 := (fewB_at hfew).1
  obtain ⟨aa, ac, rfl⟩ := hs.shape
  clear hs hfew
  go_enter Tryz.func10, Tryz.ntmps10
  go_wp2_with fail
  go_loopw [3] (fun i wr => ∃ k : Nat, k ≤ s.length ∧ i = .int .i64 k ∧ Hid (∀ j, j < k → tabOK s j = true) ∧ Hid (Below w.heap.size w wr)) (fun i _ => s.length - (intOf i).toNat)
  case atStart => exact ⟨0, Nat.zero_le _, rfl, Lib.hid (fun i h => absurd h (Nat.not_lt_zero _)), Lib.hid (Below.refl _ _)⟩
  case round =>
    obtain ⟨k, hk, rfl, hno, hbr⟩ := hrel
    by_cases hlt : k < s.length
    · obtain ⟨_, _, ee, -, -, -, -, x5⟩ := HS.out.at hbr.out
      simp only [Value.slice.injEq, true_and] at ee
      obtain ⟨rfl, rfl⟩ := ee
      obtain ⟨b1, o1, ca, cc, la, lc, rfl, -, l1, c0, c1, hC, hA⟩ := x5.tab hlt
      have hfn := Lib.hid (show tabOK s k = false → rightTs s = false from fun h => allR_no hlt h)
      have hfy := Lib.hid (show tabOK s k = true → ∀ i, i < k + 1 → tabOK s i = true from fun h i hi => by
        by_cases e : i = k
        · subst e; exact h
        · exact hno.out i (by omega))
      have hat := Lib.hid (tabOK_at hlt)
      obtain ⟨f1, f2, f3⟩ := HF.out.2 _ (List.getElem_mem hlt)
      have HC := Lib.hid hC
      have HA := Lib.hid hA
      obtain ⟨t, ht⟩ : ∃ t, t = s[k] := ⟨_, rfl⟩
      rw [← ht] at c0 c1 HA HC hat f1 f2 f3
      have F3 := Lib.hid f3
      clear ht x5 hA hC f3
      have hkl : (k : Int) < (s.length : Int) := by omega
      have hk0 : (0 : Int) ≤ (k : Int) := by omega
      go_wp2_with fail
      refine (AtomR14_spec HC.out).mono ?_
      rintro e y1 ⟨rfl, hy1⟩
      have Y1 := Lib.hid hy1
      replace c1 : y1.cell? ⟨b1, o1 + k * 2 + 1, none⟩ = _ := (hy1.cell (p := ⟨b1, o1 + k * 2 + 1, none⟩) l1).trans c1
      clear hy1 c0
      cases hat1 : atomT' t.call with
      | false =>
        have hd := Lib.hid (hfn.out (by rw [hat.out, hat1]; rfl))
        clear hat1 c1
        go_wp2_with fail
        go_ret
        exact ⟨ret_bool hd.out.symm, below_step Y1.out hbr.out⟩
      | true =>
        have hpos : 0 < t.call.length := by
          unfold atomT' at hat1
          rw [Bool.and_eq_true] at hat1
          exact (of_decide_eq_true hat1.1 : RightT t.call).pos
        have A1 := Lib.hid hat1
        clear hat1
        go_wp2_with fail
        refine (NumberR_spec (HC.out.at Y1.out) hpos (by omega)).mono ?_
        rintro e y2 ⟨v2, rfl, hy2, hs2⟩
        obtain ⟨va, vc, rfl⟩ := hs2.shape
        have N2 := Lib.hid hs2
        have Y2 := Lib.hid (below_step hy2 Y1.out)
        replace c1 : y2.cell? ⟨b1, o1 + k * 2 + 1, none⟩ = _ := (hy2.cell (p := ⟨b1, o1 + k * 2 + 1, none⟩) (Nat.lt_of_lt_of_le l1 Y1.out.size)).trans c1
        clear hy2 hs2
        go_wp2_with fail
        refine (SameT_spec N2.out (HC.out.at Y2.out)).mono ?_
        rintro e y3 ⟨rfl, hq⟩
        have hy3 := Drew.below hq y2.heap.size
        have Y3 := Lib.hid (below_step hy3 Y2.out)
        replace c1 : y3.cell? ⟨b1, o1 + k * 2 + 1, none⟩ = _ := (hy3.cell (p := ⟨b1, o1 + k * 2 + 1, none⟩) (Nat.lt_of_lt_of_le l1 Y2.out.size)).trans c1
        clear hq hy3
        by_cases hn : numT t.call = t.call
        · rw [decide_eq_true hn]
          have Hn := Lib.hid hn
          clear hn
          go_wp2_with fail
          refine (FindR14_spec (HS.out.at (below_step Y3.out hbr.out)) (HC.out.at Y3.out) hpos (by omega)).mono ?_
          rintro e y4 ⟨rfl, hy4⟩
          have Y4 := Lib.hid (below_step hy4 Y3.out)
          replace c1 : y4.cell? ⟨b1, o1 + k * 2 + 1, none⟩ = _ := (hy4.cell (p := ⟨b1, o1 + k * 2 + 1, none⟩) (Nat.lt_of_lt_of_le l1 Y3.out.size)).trans c1
          have l4 : b1 < y4.heap.size := Nat.lt_of_lt_of_le l1 Y4.out.size
          clear hy4
          by_cases hfd : findTb s t.call = (k : Int)
          · have hfd' : (findTb s t.call != (k : Int)) = false := by simpa using hfd
            have hat2 := Lib.hid (show tabOK s k = (List.range t.ans.length).all (ansOK t) by rw [hat.out, A1.out, decide_eq_true Hn.out, decide_eq_true hfd]; rfl)
            clear hfd hat
            go_wp2_with fail
            go_loopw [5] (fun i wz => ∃ q : Nat, q ≤ t.ans.length ∧ i = .int .i64 q ∧ Hid (∀ j, j < q → ansOK t j = true) ∧ Hid (Below y4.heap.size y4 wz)) (fun i _ => t.ans.length - (intOf i).toNat)
            case atStart => exact ⟨0, Nat.zero_le _, rfl, Lib.hid (fun i h => absurd h (Nat.not_lt_zero _)), Lib.hid (Below.refl _ _)⟩
            case round =>
              obtain ⟨q, hq, rfl, hqo, hbz⟩ := hrel
              replace c1 : wr.cell? ⟨b1, o1 + k * 2 + 1, none⟩ = _ := (hbz.out.cell (p := ⟨b1, o1 + k * 2 + 1, none⟩) l4).trans c1
              replace l4 : b1 < wr.heap.size := Nat.lt_of_lt_of_le l4 hbz.out.size
              have Z4 := Lib.hid (below_step hbz.out Y4.out)
              by_cases hqt : q < t.ans.length
              · obtain ⟨_, _, ee, hle, -, -, -, y5⟩ := HA.out.at Z4.out
                simp only [Value.slice.injEq, true_and] at ee
                obtain ⟨rfl, rfl⟩ := ee
                obtain ⟨b2, o2, p2, n2, rfl, -, l2, d0, hX⟩ := y5.seq hqt
                have HX := Lib.hid hX
                have HC4 := Lib.hid (HC.out.at Z4.out)
                have htk := Lib.hid ((HA.out.at Z4.out).take (j := q) (by omega))
                have hon := Lib.hid (show ansOK t q = false → rightTs s = false from fun h => hfn.out (by rw [hat2.out]; exact allR_no hqt h))
                have hoy := Lib.hid (show ansOK t q = true → ∀ i, i < q + 1 → ansOK t i = true from fun h i hi => by
                  by_cases e : i = q
                  · subst e; exact h
                  · exact hqo.out i (by omega))
                have hao := Lib.hid (ansOK_at hqt)
                have hxl := F3.out _ (List.getElem_mem hqt)
                obtain ⟨x, hx⟩ : ∃ x, x = t.ans[q] := ⟨_, rfl⟩
                rw [← hx] at d0 HX hao hxl
                have hqc : q ≤ lc := by omega
                have hqI : (q : Int) < (t.ans.length : Int) := by omega
                have hq0 : (0 : Int) ≤ (q : Int) := by omega
                have hqC : (q : Int) ≤ (lc : Int) := by omega
                have hql : q ≤ t.ans.length := by omega
                have hspec := Lib.hid (fun (W' : World) (h : Below wr.heap.size wr W') => InstanceR14_spec (HC4.out.at h) (HX.out.at h) (by omega) (by omega))
                have hspec2 := Lib.hid (fun (W' : World) (h : Below wr.heap.size wr W') => HasR14_spec (htk.out.at h) (HX.out.at h))
                have Kq := fun {W' : World} (h : Below wr.heap.size wr W') => Lib.hid (show W'.cell? ⟨b1, o1 + k * 2 + 1, none⟩ = some (.slice (some ⟨b2, o2, none⟩) t.ans.length lc) ∧ W'.cell? ⟨b2, o2 + q, none⟩ = some (.slice p2 x.length n2) from
                  ⟨(h.cell (p := ⟨b1, o1 + k * 2 + 1, none⟩) l4).trans c1, (h.cell (p := ⟨b2, o2 + q, none⟩) l2).trans d0⟩)
                clear hx y5 hX hle
                cases hi : instB t.call x with
                | false =>
                  rw [hi] at hspec
                  have hd := Lib.hid (hon.out (by rw [hao.out, hi]; rfl))
                  clear hi
                  go_upto_region 10 with fail
                  clear c1 d0
                  (try simp only [List.append_eq, List.cons_append, List.nil_append])
                  refine wp_region_noPanic ?_
                  refine wp_region_held_drew (S := fun w' => w'.cell? ⟨b1, o1 + k * 2 + 1, none⟩ = some (.slice (some ⟨b2, o2, none⟩) t.ans.length lc) ∧ w'.cell? ⟨b2, o2 + q, none⟩ = some (.slice p2 x.length n2)) (by kernel_rfl) ?_ (fun hHeld => ?_)
                  · exact (Kq (Below.drew (Below.refl _ _))).out
                  refine wpAnyH_take1 (i := 0) (oi := _) (v := ?_) (by kernel_rfl) rfl (by kernel_rfl) (fun _ _ _ h => h) (Or.inl ⟨by rfl, ?_⟩) (by assumption) ?_
                  rotate_left 1
                  · intro w hSw; (try dsimp only at hSw); go_simp; (with_reducible rfl)
                  (try simp only [Act.put, List.getElem_toArray, List.getElem_cons_zero, List.setIfInBounds_toArray, List.set_cons_zero, List.set_cons_succ])
                  refine wpAnyH_take1 (i := 1) (oi := _) (v := ?_) (by kernel_rfl) rfl (by kernel_rfl) (fun _ _ _ h => h) (Or.inl ⟨by rfl, ?_⟩) (by assumption) ?_
                  rotate_left 1
                  · intro w hSw; (try dsimp only at hSw); go_simp; (with_reducible rfl)
                  (try simp only [Act.put, List.getElem_toArray, List.getElem_cons_zero, List.getElem_cons_succ, List.setIfInBounds_toArray, List.set_cons_zero, List.set_cons_succ])
                  refine wpAnyH_take1 (i := 2) (oi := _) (v := ?_) (by kernel_rfl) rfl (by kernel_rfl) (fun _ _ _ h => h) (Or.inl ⟨by rfl, ?_⟩) (by assumption) ?_
                  rotate_left 1
                  · intro w hSw; (try dsimp only at hSw); go_simp; (with_reducible rfl)
                  (try simp only [Act.put, List.getElem_toArray, List.getElem_cons_zero, List.getElem_cons_succ, List.setIfInBounds_toArray, List.set_cons_zero, List.set_cons_succ])
                  refine wpAnyH_take1 (i := 3) (oi := _) (v := ?_) (by kernel_rfl) rfl (by kernel_rfl) (fun _ _ _ h => h) (Or.inl ⟨by rfl, ?_⟩) (by assumption) ?_
                  rotate_left 1
                  · intro w hSw; (try dsimp only at hSw); go_simp; (with_reducible rfl)
                  (try simp only [Act.put, List.getElem_toArray, List.getElem_cons_zero, List.getElem_cons_succ, List.setIfInBounds_toArray, List.set_cons_zero, List.set_cons_succ])
                  refine wpAnyH_take1 (i := 4) (oi := _) (v := ?_) (by kernel_rfl) rfl (by kernel_rfl) (fun _ _ _ h => h) (Or.inl ⟨by rfl, ?_⟩) (by assumption) ?_
                  rotate_left 1
                  · intro w hSw; (try dsimp only at hSw); go_simp; (with_reducible rfl)
                  (try simp only [Act.put, List.getElem_toArray, List.getElem_cons_zero, List.getElem_cons_succ, List.setIfInBounds_toArray, List.set_cons_zero, List.set_cons_succ])
                  refine wpAnyH_take1 (i := 5) (oi := _) (v := ?_) (by kernel_rfl) rfl (by kernel_rfl) (fun _ _ _ h => h) (Or.inl ⟨by rfl, ?_⟩) (by assumption) ?_
                  rotate_left 1
                  · intro w hSw; (try dsimp only at hSw); go_simp; (with_reducible rfl)
                  (try simp only [Act.put, List.getElem_toArray, List.getElem_cons_zero, List.getElem_cons_succ, List.setIfInBounds_toArray, List.set_cons_zero, List.set_cons_succ])
                  refine wpAnyH_take1 (i := 6) (oi := _) (v := ?_) (by kernel_rfl) rfl (by kernel_rfl) (fun _ _ _ h => h) (Or.inl ⟨by rfl, ?_⟩) (by assumption) ?_
                  rotate_left 1
                  · intro w hSw; (try dsimp only at hSw); go_simp; (with_reducible rfl)
                  (try simp only [Act.put, List.getElem_toArray, List.getElem_cons_zero, List.getElem_cons_succ, List.setIfInBounds_toArray, List.set_cons_zero, List.set_cons_succ])
                  refine wpAnyH_take1 (i := 7) (oi := _) (v := ?_) (by kernel_rfl) rfl (by kernel_rfl) (fun _ _ _ h => h) (Or.inl ⟨by rfl, ?_⟩) (by assumption) ?_
                  rotate_left 1
                  · intro w hSw; (try dsimp only at hSw); go_simp; (with_reducible rfl)
                  (try simp only [Act.put, List.getElem_toArray, List.getElem_cons_zero, List.getElem_cons_succ, List.setIfInBounds_toArray, List.set_cons_zero, List.set_cons_succ])
                  refine wpAnyH_take1 (i := 8) (oi := _) (v := ?_) (by kernel_rfl) rfl (by kernel_rfl) (fun _ _ _ h => h) (Or.inl ⟨by rfl, ?_⟩) (by assumption) ?_
                  rotate_left 1
                  · intro w hSw; (try dsimp only at hSw); go_simp; (with_reducible rfl)
                  (try simp only [Act.put, List.getElem_toArray, List.getElem_cons_zero, List.getElem_cons_succ, List.setIfInBounds_toArray, List.set_cons_zero, List.set_cons_succ])
                  refine wpAnyH_one (i := 9) (by kernel_rfl) rfl (by rfl) fun K hK => ?_
                  go_simp
                  refine (hspec.out _ Seq.way).mono ?_
                  rintro e y3 ⟨rfl, hy3⟩
                  have HY3 := below_step hy3 (Seq.way : Below wr.heap.size wr _)
                  have zy3 := HY3.size
                  (try dsimp only)
                  clear hHeld
                  refine hK.out _ _ (Kq HY3).out fun hHeld => ?_
                  clear hK K
                  (try simp only [Act.put, List.getElem_toArray, List.getElem_cons_zero, List.getElem_cons_succ, List.setIfInBounds_toArray, List.set_cons_zero, List.set_cons_succ])
                  refine wpAnyH_take1 (i := 10) (oi := _) (v := ?_) (by kernel_rfl) rfl (by kernel_rfl) (fun _ _ _ h => h) (Or.inl ⟨by rfl, ?_⟩) (by assumption) ?_
                  rotate_left 1
                  · intro w hSw; (try dsimp only at hSw); go_simp; (with_reducible rfl)
                  (try simp only [Act.put, List.getElem_toArray, List.getElem_cons_zero, List.getElem_cons_succ, List.setIfInBounds_toArray, List.set_cons_zero, List.set_cons_succ])
                  refine wpAnyH_take1 (i := 11) (oi := _) (v := ?_) (by kernel_rfl) rfl (by kernel_rfl) (fun _ _ _ h => h) (Or.inl ⟨by rfl, ?_⟩) (by assumption) ?_
                  rotate_left 1
                  · intro w hSw; (try dsimp only at hSw); go_simp; (with_reducible rfl)
                  (try simp only [Act.put, List.getElem_toArray, List.getElem_cons_zero, List.getElem_cons_succ, List.setIfInBounds_toArray, List.set_cons_zero, List.set_cons_succ])
                  refine wpAnyH_take1 (i := 12) (oi := _) (v := undef) (by kernel_rfl) rfl (by kernel_rfl) (fun _ _ _ h => h) (Or.inr ⟨by rfl, rfl⟩) (by assumption) ?_
                  (try simp only [Act.put, List.getElem_toArray, List.getElem_cons_zero, List.getElem_cons_succ, List.setIfInBounds_toArray, List.set_cons_zero, List.set_cons_succ])
                  refine wpAnyH_take1 (i := 13) (oi := _) (v := undef) (by kernel_rfl) rfl (by kernel_rfl) (fun _ _ _ h => h) (Or.inr ⟨by rfl, rfl⟩) (by assumption) ?_
                  (try simp only [Act.put, List.getElem_toArray, List.getElem_cons_zero, List.getElem_cons_succ, List.setIfInBounds_toArray, List.set_cons_zero, List.set_cons_succ])
                  refine wpAnyH_take1 (i := 14) (oi := _) (v := undef) (by kernel_rfl) rfl (by kernel_rfl) (fun _ _ _ h => h) (Or.inr ⟨by rfl, rfl⟩) (by assumption) ?_
                  (try simp only [Act.put, List.getElem_toArray, List.getElem_cons_zero, List.getElem_cons_succ, List.setIfInBounds_toArray, List.set_cons_zero, List.set_cons_succ])
                  refine wpAnyH_take1 (i := 15) (oi := _) (v := undef) (by kernel_rfl) rfl (by kernel_rfl) (fun _ _ _ h => h) (Or.inr ⟨by rfl, rfl⟩) (by assumption) ?_
                  (try simp only [Act.put, List.getElem_toArray, List.getElem_cons_zero, List.getElem_cons_succ, List.setIfInBounds_toArray, List.set_cons_zero, List.set_cons_succ])
                  refine wpAnyH_take1 (i := 16) (oi := _) (v := undef) (by kernel_rfl) rfl (by kernel_rfl) (fun _ _ _ h => h) (Or.inr ⟨by rfl, rfl⟩) (by assumption) ?_
                  (try simp only [Act.put, List.getElem_toArray, List.getElem_cons_zero, List.getElem_cons_succ, List.setIfInBounds_toArray, List.set_cons_zero, List.set_cons_succ])
                  refine wpAnyH_take1 (i := 17) (oi := _) (v := undef) (by kernel_rfl) rfl (by kernel_rfl) (fun _ _ _ h => h) (Or.inr ⟨by rfl, rfl⟩) (by assumption) ?_
                  (try simp only [Act.put, List.getElem_toArray, List.getElem_cons_zero, List.getElem_cons_succ, List.setIfInBounds_toArray, List.set_cons_zero, List.set_cons_succ])
                  refine wpAnyH_take1 (i := 18) (oi := _) (v := undef) (by kernel_rfl) rfl (by kernel_rfl) (fun _ _ _ h => h) (Or.inr ⟨by rfl, rfl⟩) (by assumption) ?_
                  (try simp only [Act.put, List.getElem_toArray, List.getElem_cons_zero, List.getElem_cons_succ, List.setIfInBounds_toArray, List.set_cons_zero, List.set_cons_succ])
                  refine wpAnyH_take1 (i := 19) (oi := _) (v := undef) (by kernel_rfl) rfl (by kernel_rfl) (fun _ _ _ h => h) (Or.inr ⟨by rfl, rfl⟩) (by assumption) ?_
                  (try simp only [Act.put, List.getElem_toArray, List.getElem_cons_zero, List.getElem_cons_succ, List.setIfInBounds_toArray, List.set_cons_zero, List.set_cons_succ])
                  refine wpAnyH_take1 (i := 20) (oi := _) (v := undef) (by kernel_rfl) rfl (by kernel_rfl) (fun _ _ _ h => h) (Or.inr ⟨by rfl, rfl⟩) (by assumption) ?_
                  (try simp only [Act.put, List.getElem_toArray, List.getElem_cons_zero, List.getElem_cons_succ, List.setIfInBounds_toArray, List.set_cons_zero, List.set_cons_succ])
                  refine wpAnyH_take1 (i := 21) (oi := _) (v := undef) (by kernel_rfl) rfl (by kernel_rfl) (fun _ _ _ h => h) (Or.inr ⟨by rfl, rfl⟩) (by assumption) ?_
                  (try simp only [Act.put, List.getElem_toArray, List.getElem_cons_zero, List.getElem_cons_succ, List.setIfInBounds_toArray, List.set_cons_zero, List.set_cons_succ])
                  refine wpAnyH_take1 (i := 22) (oi := _) (v := undef) (by kernel_rfl) rfl (by kernel_rfl) (fun _ _ _ h => h) (Or.inr ⟨by rfl, rfl⟩) (by assumption) ?_
                  (try simp only [Act.put, List.getElem_toArray, List.getElem_cons_zero, List.getElem_cons_succ, List.setIfInBounds_toArray, List.set_cons_zero, List.set_cons_succ])
                  refine wpAnyH_take1 (i := 23) (oi := _) (v := undef) (by kernel_rfl) rfl (by kernel_rfl) (fun _ _ _ h => h) (Or.inr ⟨by rfl, rfl⟩) (by assumption) ?_
                  (try simp only [Act.put, List.getElem_toArray, List.getElem_cons_zero, List.getElem_cons_succ, List.setIfInBounds_toArray, List.set_cons_zero, List.set_cons_succ])
                  refine wpAnyH_take1 (i := 24) (oi := _) (v := undef) (by kernel_rfl) rfl (by kernel_rfl) (fun _ _ _ h => h) (Or.inr ⟨by rfl, rfl⟩) (by assumption) ?_
                  (try simp only [Act.put, List.getElem_toArray, List.getElem_cons_zero, List.getElem_cons_succ, List.setIfInBounds_toArray, List.set_cons_zero, List.set_cons_succ])
                  refine wpAnyH_take1 (i := 25) (oi := _) (v := undef) (by kernel_rfl) rfl (by kernel_rfl) (fun _ _ _ h => h) (Or.inr ⟨by rfl, rfl⟩) (by assumption) ?_
                  (try simp only [Act.put, List.getElem_toArray, List.getElem_cons_zero, List.getElem_cons_succ, List.setIfInBounds_toArray, List.set_cons_zero, List.set_cons_succ])
                  refine wpAnyH_take1 (i := 26) (oi := _) (v := undef) (by kernel_rfl) rfl (by kernel_rfl) (fun _ _ _ h => h) (Or.inr ⟨by rfl, rfl⟩) (by assumption) ?_
                  (try simp only [Act.put, List.getElem_toArray, List.getElem_cons_zero, List.getElem_cons_succ, List.setIfInBounds_toArray, List.set_cons_zero, List.set_cons_succ])
                  refine wpAnyH_take1 (i := 27) (oi := _) (v := undef) (by kernel_rfl) rfl (by kernel_rfl) (fun _ _ _ h => h) (Or.inr ⟨by rfl, rfl⟩) (by assumption) ?_
                  (try simp only [Act.put, List.getElem_toArray, List.getElem_cons_zero, List.getElem_cons_succ, List.setIfInBounds_toArray, List.set_cons_zero, List.set_cons_succ])
                  refine wpAnyH_take1 (i := 28) (oi := _) (v := ?_) (by kernel_rfl) rfl (by kernel_rfl) (fun _ _ _ h => h) (Or.inl ⟨by rfl, ?_⟩) (by assumption) ?_
                  rotate_left 1
                  · intro w hSw; (try dsimp only at hSw); go_simp; (with_reducible rfl)
                  (try simp only [Act.put, List.getElem_toArray, List.getElem_cons_zero, List.getElem_cons_succ, List.setIfInBounds_toArray, List.set_cons_zero, List.set_cons_succ])
                  refine wpAnyH_done (by kernel_rfl) ?_ _
                  refine NoPanic.normal ?_
                  go_wp2_with fail
                  go_ret
                  exact ⟨ret_bool hd.out.symm, below_step HY3 (below_step Z4.out hbr.out)⟩
                | true =>
                  rw [hi] at hspec
                  have hao2 := Lib.hid (show ansOK t q = !hasT (t.ans.take q) x by rw [hao.out, hi]; rfl)
                  clear hi hao
                  cases hh : hasT (t.ans.take q) x with
                  | true =>
                    rw [hh] at hspec2
                    have hd := Lib.hid (hon.out (by rw [hao2.out, hh]; rfl))
                    clear hh
                    go_upto_region 10 with fail
                    clear c1 d0
                    (try simp only [List.append_eq, List.cons_append, List.nil_append])
                    refine wp_region_noPanic ?_
                    refine wp_region_held_drew (S := fun w' => w'.cell? ⟨b1, o1 + k * 2 + 1, none⟩ = some (.slice (some ⟨b2, o2, none⟩) t.ans.length lc) ∧ w'.cell? ⟨b2, o2 + q, none⟩ = some (.slice p2 x.length n2)) (by kernel_rfl) ?_ (fun hHeld => ?_)
                    · exact (Kq (Below.drew (Below.refl _ _))).out
                    refine wpAnyH_take1 (i := 0) (oi := _) (v := ?_) (by kernel_rfl) rfl (by kernel_rfl) (fun _ _ _ h => h) (Or.inl ⟨by rfl, ?_⟩) (by assumption) ?_
                    rotate_left 1
                    · intro w hSw; (try dsimp only at hSw); go_simp; (with_reducible rfl)
                    (try simp only [Act.put, List.getElem_toArray, List.getElem_cons_zero, List.setIfInBounds_toArray, List.set_cons_zero, List.set_cons_succ])
                    refine wpAnyH_take1 (i := 1) (oi := _) (v := ?_) (by kernel_rfl) rfl (by kernel_rfl) (fun _ _ _ h => h) (Or.inl ⟨by rfl, ?_⟩) (by assumption) ?_
                    rotate_left 1
                    · intro w hSw; (try dsimp only at hSw); go_simp; (with_reducible rfl)
                    (try simp only [Act.put, List.getElem_toArray, List.getElem_cons_zero, List.getElem_cons_succ, List.setIfInBounds_toArray, List.set_cons_zero, List.set_cons_succ])
                    refine wpAnyH_take1 (i := 2) (oi := _) (v := ?_) (by kernel_rfl) rfl (by kernel_rfl) (fun _ _ _ h => h) (Or.inl ⟨by rfl, ?_⟩) (by assumption) ?_
                    rotate_left 1
                    · intro w hSw; (try dsimp only at hSw); go_simp; (with_reducible rfl)
                    (try simp only [Act.put, List.getElem_toArray, List.getElem_cons_zero, List.getElem_cons_succ, List.setIfInBounds_toArray, List.set_cons_zero, List.set_cons_succ])
                    refine wpAnyH_take1 (i := 3) (oi := _) (v := ?_) (by kernel_rfl) rfl (by kernel_rfl) (fun _ _ _ h => h) (Or.inl ⟨by rfl, ?_⟩) (by assumption) ?_
                    rotate_left 1
                    · intro w hSw; (try dsimp only at hSw); go_simp; (with_reducible rfl)
                    (try simp only [Act.put, List.getElem_toArray, List.getElem_cons_zero, List.getElem_cons_succ, List.setIfInBounds_toArray, List.set_cons_zero, List.set_cons_succ])
                    refine wpAnyH_take1 (i := 4) (oi := _) (v := ?_) (by kernel_rfl) rfl (by kernel_rfl) (fun _ _ _ h => h) (Or.inl ⟨by rfl, ?_⟩) (by assumption) ?_
                    rotate_left 1
                    · intro w hSw; (try dsimp only at hSw); go_simp; (with_reducible rfl)
                    (try simp only [Act.put, List.getElem_toArray, List.getElem_cons_zero, List.getElem_cons_succ, List.setIfInBounds_toArray, List.set_cons_zero, List.set_cons_succ])
                    refine wpAnyH_take1 (i := 5) (oi := _) (v := ?_) (by kernel_rfl) rfl (by kernel_rfl) (fun _ _ _ h => h) (Or.inl ⟨by rfl, ?_⟩) (by assumption) ?_
                    rotate_left 1
                    · intro w hSw; (try dsimp only at hSw); go_simp; (with_reducible rfl)
                    (try simp only [Act.put, List.getElem_toArray, List.getElem_cons_zero, List.getElem_cons_succ, List.setIfInBounds_toArray, List.set_cons_zero, List.set_cons_succ])
                    refine wpAnyH_take1 (i := 6) (oi := _) (v := ?_) (by kernel_rfl) rfl (by kernel_rfl) (fun _ _ _ h => h) (Or.inl ⟨by rfl, ?_⟩) (by assumption) ?_
                    rotate_left 1
                    · intro w hSw; (try dsimp only at hSw); go_simp; (with_reducible rfl)
                    (try simp only [Act.put, List.getElem_toArray, List.getElem_cons_zero, List.getElem_cons_succ, List.setIfInBounds_toArray, List.set_cons_zero, List.set_cons_succ])
                    refine wpAnyH_take1 (i := 7) (oi := _) (v := ?_) (by kernel_rfl) rfl (by kernel_rfl) (fun _ _ _ h => h) (Or.inl ⟨by rfl, ?_⟩) (by assumption) ?_
                    rotate_left 1
                    · intro w hSw; (try dsimp only at hSw); go_simp; (with_reducible rfl)
                    (try simp only [Act.put, List.getElem_toArray, List.getElem_cons_zero, List.getElem_cons_succ, List.setIfInBounds_toArray, List.set_cons_zero, List.set_cons_succ])
                    refine wpAnyH_take1 (i := 8) (oi := _) (v := ?_) (by kernel_rfl) rfl (by kernel_rfl) (fun _ _ _ h => h) (Or.inl ⟨by rfl, ?_⟩) (by assumption) ?_
                    rotate_left 1
                    · intro w hSw; (try dsimp only at hSw); go_simp; (with_reducible rfl)
                    (try simp only [Act.put, List.getElem_toArray, List.getElem_cons_zero, List.getElem_cons_succ, List.setIfInBounds_toArray, List.set_cons_zero, List.set_cons_succ])
                    refine wpAnyH_one (i := 9) (by kernel_rfl) rfl (by rfl) fun K hK => ?_
                    go_simp
                    refine (hspec.out _ Seq.way).mono ?_
                    rintro e y3 ⟨rfl, hy3⟩
                    have HY3 := below_step hy3 (Seq.way : Below wr.heap.size wr _)
                    have zy3 := HY3.size
                    (try dsimp only)
                    clear hHeld
                    refine hK.out _ _ (Kq HY3).out fun hHeld => ?_
                    clear hK K
                    (try simp only [Act.put, List.getElem_toArray, List.getElem_cons_zero, List.getElem_cons_succ, List.setIfInBounds_toArray, List.set_cons_zero, List.set_cons_succ])
                    refine wpAnyH_take1 (i := 10) (oi := _) (v := ?_) (by kernel_rfl) rfl (by kernel_rfl) (fun _ _ _ h => h) (Or.inl ⟨by rfl, ?_⟩) (by assumption) ?_
                    rotate_left 1
                    · intro w hSw; (try dsimp only at hSw); go_simp; (with_reducible rfl)
                    (try simp only [Act.put, List.getElem_toArray, List.getElem_cons_zero, List.getElem_cons_succ, List.setIfInBounds_toArray, List.set_cons_zero, List.set_cons_succ])
                    refine wpAnyH_take1 (i := 11) (oi := _) (v := ?_) (by kernel_rfl) rfl (by kernel_rfl) (fun _ _ _ h => h) (Or.inl ⟨by rfl, ?_⟩) (by assumption) ?_
                    rotate_left 1
                    · intro w hSw; (try dsimp only at hSw); go_simp; (with_reducible rfl)
                    (try simp only [Act.put, List.getElem_toArray, List.getElem_cons_zero, List.getElem_cons_succ, List.setIfInBounds_toArray, List.set_cons_zero, List.set_cons_succ])
                    refine wpAnyH_take1 (i := 12) (oi := _) (v := ?_) (by kernel_rfl) rfl (by kernel_rfl) (fun _ _ _ h => h) (Or.inl ⟨by rfl, ?_⟩) (by assumption) ?_
                    rotate_left 1
                    · intro w hSw; (try dsimp only at hSw); go_simp; (with_reducible rfl)
                    (try simp only [Act.put, List.getElem_toArray, List.getElem_cons_zero, List.getElem_cons_succ, List.setIfInBounds_toArray, List.set_cons_zero, List.set_cons_succ])
                    refine wpAnyH_take1 (i := 13) (oi := _) (v := ?_) (by kernel_rfl) rfl (by kernel_rfl) (fun _ _ _ h => h) (Or.inl ⟨by rfl, ?_⟩) (by assumption) ?_
                    rotate_left 1
                    · intro w hSw; (try dsimp only at hSw); go_simp; (with_reducible rfl)
                    (try simp only [Act.put, List.getElem_toArray, List.getElem_cons_zero, List.getElem_cons_succ, List.setIfInBounds_toArray, List.set_cons_zero, List.set_cons_succ])
                    refine wpAnyH_take1 (i := 14) (oi := _) (v := ?_) (by kernel_rfl) rfl (by kernel_rfl) (fun _ _ _ h => h) (Or.inl ⟨by rfl, ?_⟩) (by assumption) ?_
                    rotate_left 1
                    · intro w hSw; (try dsimp only at hSw); go_simp; (with_reducible rfl)
                    (try simp only [Act.put, List.getElem_toArray, List.getElem_cons_zero, List.getElem_cons_succ, List.setIfInBounds_toArray, List.set_cons_zero, List.set_cons_succ])
                    refine wpAnyH_take1 (i := 15) (oi := _) (v := ?_) (by kernel_rfl) rfl (by kernel_rfl) (fun _ _ _ h => h) (Or.inl ⟨by rfl, ?_⟩) (by assumption) ?_
                    rotate_left 1
                    · intro w hSw; (try dsimp only at hSw); go_simp; (with_reducible rfl)
                    (try simp only [Act.put, List.getElem_toArray, List.getElem_cons_zero, List.getElem_cons_succ, List.setIfInBounds_toArray, List.set_cons_zero, List.set_cons_succ])
                    refine wpAnyH_take1 (i := 16) (oi := _) (v := ?_) (by kernel_rfl) rfl (by kernel_rfl) (fun _ _ _ h => h) (Or.inl ⟨by rfl, ?_⟩) (by assumption) ?_
                    rotate_left 1
                    · intro w hSw; (try dsimp only at hSw); go_simp; (with_reducible rfl)
                    (try simp only [Act.put, List.getElem_toArray, List.getElem_cons_zero, List.getElem_cons_succ, List.setIfInBounds_toArray, List.set_cons_zero, List.set_cons_succ])
                    refine wpAnyH_take1 (i := 17) (oi := _) (v := ?_) (by kernel_rfl) rfl (by kernel_rfl) (fun _ _ _ h => h) (Or.inl ⟨by rfl, ?_⟩) (by assumption) ?_
                    rotate_left 1
                    · intro w hSw; (try dsimp only at hSw); go_simp; (with_reducible rfl)
                    (try simp only [Act.put, List.getElem_toArray, List.getElem_cons_zero, List.getElem_cons_succ, List.setIfInBounds_toArray, List.set_cons_zero, List.set_cons_succ])
                    refine wpAnyH_take1 (i := 18) (oi := _) (v := ?_) (by kernel_rfl) rfl (by kernel_rfl) (fun _ _ _ h => h) (Or.inl ⟨by rfl, ?_⟩) (by assumption) ?_
                    rotate_left 1
                    · intro w hSw; (try dsimp only at hSw); go_simp; (with_reducible rfl)
                    (try simp only [Act.put, List.getElem_toArray, List.getElem_cons_zero, List.getElem_cons_succ, List.setIfInBounds_toArray, List.set_cons_zero, List.set_cons_succ])
                    refine wpAnyH_take1 (i := 19) (oi := _) (v := ?_) (by kernel_rfl) rfl (by kernel_rfl) (fun _ _ _ h => h) (Or.inl ⟨by rfl, ?_⟩) (by assumption) ?_
                    rotate_left 1
                    · intro w hSw; (try dsimp only at hSw); go_simp; (with_reducible rfl)
                    (try simp only [Act.put, List.getElem_toArray, List.getElem_cons_zero, List.getElem_cons_succ, List.setIfInBounds_toArray, List.set_cons_zero, List.set_cons_succ])
                    refine wpAnyH_take1 (i := 20) (oi := _) (v := ?_) (by kernel_rfl) rfl (by kernel_rfl) (fun _ _ _ h => h) (Or.inl ⟨by rfl, ?_⟩) (by assumption) ?_
                    rotate_left 1
                    · intro w hSw; (try dsimp only at hSw); go_simp; (with_reducible rfl)
                    (try simp only [Act.put, List.getElem_toArray, List.getElem_cons_zero, List.getElem_cons_succ, List.setIfInBounds_toArray, List.set_cons_zero, List.set_cons_succ])
                    refine wpAnyH_take1 (i := 21) (oi := _) (v := ?_) (by kernel_rfl) rfl (by kernel_rfl) (fun _ _ _ h => h) (Or.inl ⟨by rfl, ?_⟩) (by assumption) ?_
                    rotate_left 1
                    · intro w hSw; (try dsimp only at hSw); go_simp; (with_reducible rfl)
                    (try simp only [Act.put, List.getElem_toArray, List.getElem_cons_zero, List.getElem_cons_succ, List.setIfInBounds_toArray, List.set_cons_zero, List.set_cons_succ])
                    refine wpAnyH_take1 (i := 22) (oi := _) (v := ?_) (by kernel_rfl) rfl (by kernel_rfl) (fun _ _ _ h => h) (Or.inl ⟨by rfl, ?_⟩) (by assumption) ?_
                    rotate_left 1
                    · intro w hSw; (try dsimp only at hSw); go_simp; (with_reducible rfl)
                    (try simp only [Act.put, List.getElem_toArray, List.getElem_cons_zero, List.getElem_cons_succ, List.setIfInBounds_toArray, List.set_cons_zero, List.set_cons_succ])
                    refine wpAnyH_take1 (i := 23) (oi := _) (v := ?_) (by kernel_rfl) rfl (by kernel_rfl) (fun _ _ _ h => h) (Or.inl ⟨by rfl, ?_⟩) (by assumption) ?_
                    rotate_left 1
                    · intro w hSw; (try dsimp only at hSw); go_simp; (with_reducible rfl)
                    (try simp only [Act.put, List.getElem_toArray, List.getElem_cons_zero, List.getElem_cons_succ, List.setIfInBounds_toArray, List.set_cons_zero, List.set_cons_succ])
                    refine wpAnyH_take1 (i := 24) (oi := _) (v := ?_) (by kernel_rfl) rfl (by kernel_rfl) (fun _ _ _ h => h) (Or.inl ⟨by rfl, ?_⟩) (by assumption) ?_
                    rotate_left 1
                    · intro w hSw; (try dsimp only at hSw); go_simp; (with_reducible rfl)
                    (try simp only [Act.put, List.getElem_toArray, List.getElem_cons_zero, List.getElem_cons_succ, List.setIfInBounds_toArray, List.set_cons_zero, List.set_cons_succ])
                    refine wpAnyH_take1 (i := 25) (oi := _) (v := ?_) (by kernel_rfl) rfl (by kernel_rfl) (fun _ _ _ h => h) (Or.inl ⟨by rfl, ?_⟩) (by assumption) ?_
                    rotate_left 1
                    · intro w hSw; (try dsimp only at hSw); go_simp; (with_reducible rfl)
                    (try simp only [Act.put, List.getElem_toArray, List.getElem_cons_zero, List.getElem_cons_succ, List.setIfInBounds_toArray, List.set_cons_zero, List.set_cons_succ])
                    refine wpAnyH_take1 (i := 26) (oi := _) (v := ?_) (by kernel_rfl) rfl (by kernel_rfl) (fun _ _ _ h => h) (Or.inl ⟨by rfl, ?_⟩) (by assumption) ?_
                    rotate_left 1
                    · intro w hSw; (try dsimp only at hSw); go_simp; (with_reducible rfl)
                    (try simp only [Act.put, List.getElem_toArray, List.getElem_cons_zero, List.getElem_cons_succ, List.setIfInBounds_toArray, List.set_cons_zero, List.set_cons_succ])
                    refine wpAnyH_one (i := 27) (by kernel_rfl) rfl (by rfl) fun K hK => ?_
                    go_simp
                    refine (hspec2.out _ HY3).mono ?_
                    rintro e y4 ⟨rfl, hy4⟩
                    have HY4 : Below y3.heap.size y3 y4 := Drew.below hy4 y3.heap.size
                    (try dsimp only)
                    clear hHeld
                    refine hK.out _ _ (Kq (below_step HY4 HY3)).out fun hHeld => ?_
                    clear hK K
                    (try simp only [Act.put, List.getElem_toArray, List.getElem_cons_zero, List.getElem_cons_succ, List.setIfInBounds_toArray, List.set_cons_zero, List.set_cons_succ])
                    refine wpAnyH_take1 (i := 28) (oi := _) (v := ?_) (by kernel_rfl) rfl (by kernel_rfl) (fun _ _ _ h => h) (Or.inl ⟨by rfl, ?_⟩) (by assumption) ?_
                    rotate_left 1
                    · intro w hSw; (try dsimp only at hSw); go_simp; (with_reducible rfl)
                    (try simp only [Act.put, List.getElem_toArray, List.getElem_cons_zero, List.getElem_cons_succ, List.setIfInBounds_toArray, List.set_cons_zero, List.set_cons_succ])
                    refine wpAnyH_done (by kernel_rfl) ?_ _
                    refine NoPanic.normal ?_
                    go_wp2_with fail
                    go_ret
                    exact ⟨ret_bool hd.out.symm, below_step HY4 (below_step HY3 (below_step Z4.out hbr.out))⟩
                  | false =>
                    rw [hh] at hspec2
                    have hy' := Lib.hid (hoy.out (by rw [hao2.out, hh]; rfl))
                    clear hh
                    go_upto_region 10 with fail
                    clear c1 d0
                    (try simp only [List.append_eq, List.cons_append, List.nil_append])
                    refine wp_region_noPanic ?_
                    refine wp_region_held_drew (S := fun w' => w'.cell? ⟨b1, o1 + k * 2 + 1, none⟩ = some (.slice (some ⟨b2, o2, none⟩) t.ans.length lc) ∧ w'.cell? ⟨b2, o2 + q, none⟩ = some (.slice p2 x.length n2)) (by kernel_rfl) ?_ (fun hHeld => ?_)
                    · exact (Kq (Below.drew (Below.refl _ _))).out
                    refine wpAnyH_take1 (i := 0) (oi := _) (v := ?_) (by kernel_rfl) rfl (by kernel_rfl) (fun _ _ _ h => h) (Or.inl ⟨by rfl, ?_⟩) (by assumption) ?_
                    rotate_left 1
                    · intro w hSw; (try dsimp only at hSw); go_simp; (with_reducible rfl)
                    (try simp only [Act.put, List.getElem_toArray, List.getElem_cons_zero, List.setIfInBounds_toArray, List.set_cons_zero, List.set_cons_succ])
                    refine wpAnyH_take1 (i := 1) (oi := _) (v := ?_) (by kernel_rfl) rfl (by kernel_rfl) (fun _ _ _ h => h) (Or.inl ⟨by rfl, ?_⟩) (by assumption) ?_
                    rotate_left 1
                    · intro w hSw; (try dsimp only at hSw); go_simp; (with_reducible rfl)
                    (try simp only [Act.put, List.getElem_toArray, List.getElem_cons_zero, List.getElem_cons_succ, List.setIfInBounds_toArray, List.set_cons_zero, List.set_cons_succ])
                    refine wpAnyH_take1 (i := 2) (oi := _) (v := ?_) (by kernel_rfl) rfl (by kernel_rfl) (fun _ _ _ h => h) (Or.inl ⟨by rfl, ?_⟩) (by assumption) ?_
                    rotate_left 1
                    · intro w hSw; (try dsimp only at hSw); go_simp; (with_reducible rfl)
                    (try simp only [Act.put, List.getElem_toArray, List.getElem_cons_zero, List.getElem_cons_succ, List.setIfInBounds_toArray, List.set_cons_zero, List.set_cons_succ])
                    refine wpAnyH_take1 (i := 3) (oi := _) (v := ?_) (by kernel_rfl) rfl (by kernel_rfl) (fun _ _ _ h => h) (Or.inl ⟨by rfl, ?_⟩) (by assumption) ?_
                    rotate_left 1
                    · intro w hSw; (try dsimp only at hSw); go_simp; (with_reducible rfl)
                    (try simp only [Act.put, List.getElem_toArray, List.getElem_cons_zero, List.getElem_cons_succ, List.setIfInBounds_toArray, List.set_cons_zero, List.set_cons_succ])
                    refine wpAnyH_take1 (i := 4) (oi := _) (v := ?_) (by kernel_rfl) rfl (by kernel_rfl) (fun _ _ _ h => h) (Or.inl ⟨by rfl, ?_⟩) (by assumption) ?_
                    rotate_left 1
                    · intro w hSw; (try dsimp only at hSw); go_simp; (with_reducible rfl)
                    (try simp only [Act.put, List.getElem_toArray, List.getElem_cons_zero, List.getElem_cons_succ, List.setIfInBounds_toArray, List.set_cons_zero, List.set_cons_succ])
                    refine wpAnyH_take1 (i := 5) (oi := _) (v := ?_) (by kernel_rfl) rfl (by kernel_rfl) (fun _ _ _ h => h) (Or.inl ⟨by rfl, ?_⟩) (by assumption) ?_
                    rotate_left 1
                    · intro w hSw; (try dsimp only at hSw); go_simp; (with_reducible rfl)
                    (try simp only [Act.put, List.getElem_toArray, List.getElem_cons_zero, List.getElem_cons_succ, List.setIfInBounds_toArray, List.set_cons_zero, List.set_cons_succ])
                    refine wpAnyH_take1 (i := 6) (oi := _) (v := ?_) (by kernel_rfl) rfl (by kernel_rfl) (fun _ _ _ h => h) (Or.inl ⟨by rfl, ?_⟩) (by assumption) ?_
                    rotate_left 1
                    · intro w hSw; (try dsimp only at hSw); go_simp; (with_reducible rfl)
                    (try simp only [Act.put, List.getElem_toArray, List.getElem_cons_zero, List.getElem_cons_succ, List.setIfInBounds_toArray, List.set_cons_zero, List.set_cons_succ])
                    refine wpAnyH_take1 (i := 7) (oi := _) (v := ?_) (by kernel_rfl) rfl (by kernel_rfl) (fun _ _ _ h => h) (Or.inl ⟨by rfl, ?_⟩) (by assumption) ?_
                    rotate_left 1
                    · intro w hSw; (try dsimp only at hSw); go_simp; (with_reducible rfl)
                    (try simp only [Act.put, List.getElem_toArray, List.getElem_cons_zero, List.getElem_cons_succ, List.setIfInBounds_toArray, List.set_cons_zero, List.set_cons_succ])
                    refine wpAnyH_take1 (i := 8) (oi := _) (v := ?_) (by kernel_rfl) rfl (by kernel_rfl) (fun _ _ _ h => h) (Or.inl ⟨by rfl, ?_⟩) (by assumption) ?_
                    rotate_left 1
                    · intro w hSw; (try dsimp only at hSw); go_simp; (with_reducible rfl)
                    (try simp only [Act.put, List.getElem_toArray, List.getElem_cons_zero, List.getElem_cons_succ, List.setIfInBounds_toArray, List.set_cons_zero, List.set_cons_succ])
                    refine wpAnyH_one (i := 9) (by kernel_rfl) rfl (by rfl) fun K hK => ?_
                    go_simp
                    refine (hspec.out _ Seq.way).mono ?_
                    rintro e y3 ⟨rfl, hy3⟩
                    have HY3 := below_step hy3 (Seq.way : Below wr.heap.size wr _)
                    have zy3 := HY3.size
                    (try dsimp only)
                    clear hHeld
                    refine hK.out _ _ (Kq HY3).out fun hHeld => ?_
                    clear hK K
                    (try simp only [Act.put, List.getElem_toArray, List.getElem_cons_zero, List.getElem_cons_succ, List.setIfInBounds_toArray, List.set_cons_zero, List.set_cons_succ])
                    refine wpAnyH_take1 (i := 10) (oi := _) (v := ?_) (by kernel_rfl) rfl (by kernel_rfl) (fun _ _ _ h => h) (Or.inl ⟨by rfl, ?_⟩) (by assumption) ?_
                    rotate_left 1
                    · intro w hSw; (try dsimp only at hSw); go_simp; (with_reducible rfl)
                    (try simp only [Act.put, List.getElem_toArray, List.getElem_cons_zero, List.getElem_cons_succ, List.setIfInBounds_toArray, List.set_cons_zero, List.set_cons_succ])
                    refine wpAnyH_take1 (i := 11) (oi := _) (v := ?_) (by kernel_rfl) rfl (by kernel_rfl) (fun _ _ _ h => h) (Or.inl ⟨by rfl, ?_⟩) (by assumption) ?_
                    rotate_left 1
                    · intro w hSw; (try dsimp only at hSw); go_simp; (with_reducible rfl)
                    (try simp only [Act.put, List.getElem_toArray, List.getElem_cons_zero, List.getElem_cons_succ, List.setIfInBounds_toArray, List.set_cons_zero, List.set_cons_succ])
                    refine wpAnyH_take1 (i := 12) (oi := _) (v := ?_) (by kernel_rfl) rfl (by kernel_rfl) (fun _ _ _ h => h) (Or.inl ⟨by rfl, ?_⟩) (by assumption) ?_
                    rotate_left 1
                    · intro w hSw; (try dsimp only at hSw); go_simp; (with_reducible rfl)
                    (try simp only [Act.put, List.getElem_toArray, List.getElem_cons_zero, List.getElem_cons_succ, List.setIfInBounds_toArray, List.set_cons_zero, List.set_cons_succ])
                    refine wpAnyH_take1 (i := 13) (oi := _) (v := ?_) (by kernel_rfl) rfl (by kernel_rfl) (fun _ _ _ h => h) (Or.inl ⟨by rfl, ?_⟩) (by assumption) ?_
                    rotate_left 1
                    · intro w hSw; (try dsimp only at hSw); go_simp; (with_reducible rfl)
                    (try simp only [Act.put, List.getElem_toArray, List.getElem_cons_zero, List.getElem_cons_succ, List.setIfInBounds_toArray, List.set_cons_zero, List.set_cons_succ])
                    refine wpAnyH_take1 (i := 14) (oi := _) (v := ?_) (by kernel_rfl) rfl (by kernel_rfl) (fun _ _ _ h => h) (Or.inl ⟨by rfl, ?_⟩) (by assumption) ?_
                    rotate_left 1
                    · intro w hSw; (try dsimp only at hSw); go_simp; (with_reducible rfl)
                    (try simp only [Act.put, List.getElem_toArray, List.getElem_cons_zero, List.getElem_cons_succ, List.setIfInBounds_toArray, List.set_cons_zero, List.set_cons_succ])
                    refine wpAnyH_take1 (i := 15) (oi := _) (v := ?_) (by kernel_rfl) rfl (by kernel_rfl) (fun _ _ _ h => h) (Or.inl ⟨by rfl, ?_⟩) (by assumption) ?_
                    rotate_left 1
                    · intro w hSw; (try dsimp only at hSw); go_simp; (with_reducible rfl)
                    (try simp only [Act.put, List.getElem_toArray, List.getElem_cons_zero, List.getElem_cons_succ, List.setIfInBounds_toArray, List.set_cons_zero, List.set_cons_succ])
                    refine wpAnyH_take1 (i := 16) (oi := _) (v := ?_) (by kernel_rfl) rfl (by kernel_rfl) (fun _ _ _ h => h) (Or.inl ⟨by rfl, ?_⟩) (by assumption) ?_
                    rotate_left 1
                    · intro w hSw; (try dsimp only at hSw); go_simp; (with_reducible rfl)
                    (try simp only [Act.put, List.getElem_toArray, List.getElem_cons_zero, List.getElem_cons_succ, List.setIfInBounds_toArray, List.set_cons_zero, List.set_cons_succ])
                    refine wpAnyH_take1 (i := 17) (oi := _) (v := ?_) (by kernel_rfl) rfl (by kernel_rfl) (fun _ _ _ h => h) (Or.inl ⟨by rfl, ?_⟩) (by assumption) ?_
                    rotate_left 1
                    · intro w hSw; (try dsimp only at hSw); go_simp; (with_reducible rfl)
                    (try simp only [Act.put, List.getElem_toArray, List.getElem_cons_zero, List.getElem_cons_succ, List.setIfInBounds_toArray, List.set_cons_zero, List.set_cons_succ])
                    refine wpAnyH_take1 (i := 18) (oi := _) (v := ?_) (by kernel_rfl) rfl (by kernel_rfl) (fun _ _ _ h => h) (Or.inl ⟨by rfl, ?_⟩) (by assumption) ?_
                    rotate_left 1
                    · intro w hSw; (try dsimp only at hSw); go_simp; (with_reducible rfl)
                    (try simp only [Act.put, List.getElem_toArray, List.getElem_cons_zero, List.getElem_cons_succ, List.setIfInBounds_toArray, List.set_cons_zero, List.set_cons_succ])
                    refine wpAnyH_take1 (i := 19) (oi := _) (v := ?_) (by kernel_rfl) rfl (by kernel_rfl) (fun _ _ _ h => h) (Or.inl ⟨by rfl, ?_⟩) (by assumption) ?_
                    rotate_left 1
                    · intro w hSw; (try dsimp only at hSw); go_simp; (with_reducible rfl)
                    (try simp only [Act.put, List.getElem_toArray, List.getElem_cons_zero, List.getElem_cons_succ, List.setIfInBounds_toArray, List.set_cons_zero, List.set_cons_succ])
                    refine wpAnyH_take1 (i := 20) (oi := _) (v := ?_) (by kernel_rfl) rfl (by kernel_rfl) (fun _ _ _ h => h) (Or.inl ⟨by rfl, ?_⟩) (by assumption) ?_
                    rotate_left 1
                    · intro w hSw; (try dsimp only at hSw); go_simp; (with_reducible rfl)
                    (try simp only [Act.put, List.getElem_toArray, List.getElem_cons_zero, List.getElem_cons_succ, List.setIfInBounds_toArray, List.set_cons_zero, List.set_cons_succ])
                    refine wpAnyH_take1 (i := 21) (oi := _) (v := ?_) (by kernel_rfl) rfl (by kernel_rfl) (fun _ _ _ h => h) (Or.inl ⟨by rfl, ?_⟩) (by assumption) ?_
                    rotate_left 1
                    · intro w hSw; (try dsimp only at hSw); go_simp; (with_reducible rfl)
                    (try simp only [Act.put, List.getElem_toArray, List.getElem_cons_zero, List.getElem_cons_succ, List.setIfInBounds_toArray, List.set_cons_zero, List.set_cons_succ])
                    refine wpAnyH_take1 (i := 22) (oi := _) (v := ?_) (by kernel_rfl) rfl (by kernel_rfl) (fun _ _ _ h => h) (Or.inl ⟨by rfl, ?_⟩) (by assumption) ?_
                    rotate_left 1
                    · intro w hSw; (try dsimp only at hSw); go_simp; (with_reducible rfl)
                    (try simp only [Act.put, List.getElem_toArray, List.getElem_cons_zero, List.getElem_cons_succ, List.setIfInBounds_toArray, List.set_cons_zero, List.set_cons_succ])
                    refine wpAnyH_take1 (i := 23) (oi := _) (v := ?_) (by kernel_rfl) rfl (by kernel_rfl) (fun _ _ _ h => h) (Or.inl ⟨by rfl, ?_⟩) (by assumption) ?_
                    rotate_left 1
                    · intro w hSw; (try dsimp only at hSw); go_simp; (with_reducible rfl)
                    (try simp only [Act.put, List.getElem_toArray, List.getElem_cons_zero, List.getElem_cons_succ, List.setIfInBounds_toArray, List.set_cons_zero, List.set_cons_succ])
                    refine wpAnyH_take1 (i := 24) (oi := _) (v := ?_) (by kernel_rfl) rfl (by kernel_rfl) (fun _ _ _ h => h) (Or.inl ⟨by rfl, ?_⟩) (by assumption) ?_
                    rotate_left 1
                    · intro w hSw; (try dsimp only at hSw); go_simp; (with_reducible rfl)
                    (try simp only [Act.put, List.getElem_toArray, List.getElem_cons_zero, List.getElem_cons_succ, List.setIfInBounds_toArray, List.set_cons_zero, List.set_cons_succ])
                    refine wpAnyH_take1 (i := 25) (oi := _) (v := ?_) (by kernel_rfl) rfl (by kernel_rfl) (fun _ _ _ h => h) (Or.inl ⟨by rfl, ?_⟩) (by assumption) ?_
                    rotate_left 1
                    · intro w hSw; (try dsimp only at hSw); go_simp; (with_reducible rfl)
                    (try simp only [Act.put, List.getElem_toArray, List.getElem_cons_zero, List.getElem_cons_succ, List.setIfInBounds_toArray, List.set_cons_zero, List.set_cons_succ])
                    refine wpAnyH_take1 (i := 26) (oi := _) (v := ?_) (by kernel_rfl) rfl (by kernel_rfl) (fun _ _ _ h => h) (Or.inl ⟨by rfl, ?_⟩) (by assumption) ?_
                    rotate_left 1
                    · intro w hSw; (try dsimp only at hSw); go_simp; (with_reducible rfl)
                    (try simp only [Act.put, List.getElem_toArray, List.getElem_cons_zero, List.getElem_cons_succ, List.setIfInBounds_toArray, List.set_cons_zero, List.set_cons_succ])
                    refine wpAnyH_one (i := 27) (by kernel_rfl) rfl (by rfl) fun K hK => ?_
                    go_simp
                    refine (hspec2.out _ HY3).mono ?_
                    rintro e y4 ⟨rfl, hy4⟩
                    have HY4 : Below y3.heap.size y3 y4 := Drew.below hy4 y3.heap.size
                    (try dsimp only)
                    clear hHeld
                    refine hK.out _ _ (Kq (below_step HY4 HY3)).out fun hHeld => ?_
                    clear hK K
                    (try simp only [Act.put, List.getElem_toArray, List.getElem_cons_zero, List.getElem_cons_succ, List.setIfInBounds_toArray, List.set_cons_zero, List.set_cons_succ])
                    refine wpAnyH_take1 (i := 28) (oi := _) (v := ?_) (by kernel_rfl) rfl (by kernel_rfl) (fun _ _ _ h => h) (Or.inl ⟨by rfl, ?_⟩) (by assumption) ?_
                    rotate_left 1
                    · intro w hSw; (try dsimp only at hSw); go_simp; (with_reducible rfl)
                    (try simp only [Act.put, List.getElem_toArray, List.getElem_cons_zero, List.getElem_cons_succ, List.setIfInBounds_toArray, List.set_cons_zero, List.set_cons_succ])
                    refine wpAnyH_done (by kernel_rfl) ?_ _
                    refine NoPanic.normal ?_
                    have HF4 := Lib.hid (below_step HY4 (below_step HY3 hbz.out))
                    go_wp2_with fail
                    go_roundw
                    case rel => exact ⟨q + 1, hqt, by go_num, hy', HF4⟩
                    case measure => simp [intOf]; omega
              · have hqI : ¬ (q : Int) < (t.ans.length : Int) := by omega
                have hy' := Lib.hid (hfy.out (by rw [hat2.out]; exact allR_yes fun j hj => hqo.out j (by omega)))
                clear hqt
                go_wp2_with fail
                go_roundw
                case rel => exact ⟨k + 1, hlt, by go_num, hy', Lib.hid (below_step Z4.out hbr.out)⟩
                case measure => simp [intOf]; omega
          · have hfd' : (findTb s t.call != (k : Int)) = true := by simpa using hfd
            have hd := Lib.hid (hfn.out (by rw [hat.out, decide_eq_false hfd]; simp))
            clear hfd
            go_wp2_with fail
            go_ret
            exact ⟨ret_bool hd.out.symm, below_step Y4.out hbr.out⟩
        · rw [decide_eq_false hn]
          have hd := Lib.hid (hfn.out (by rw [hat.out, decide_eq_false hn]; simp))
          clear hn
          go_wp2_with fail
          go_ret
          exact ⟨ret_bool hd.out.symm, below_step Y3.out hbr.out⟩
    · have hkl : ¬ (k : Int) < (s.length : Int) := by omega
      have hd := Lib.hid (show rightTs s = true from allR_yes fun j hj => hno.out j (by omega))
      clear hlt
      go_wp2_with fail
      go_ret
      exact ⟨ret_bool hd.out.symm, hbr.out⟩
end
section
open Go Go.RowKit

theorem riseOK_at {s : List Tab} {i : Nat} (hi : i < s.length) : riseOK s i = ((i == 0 || decide (cmpR ((s[i - 1]?.map (·.call)).getD []) s[i].call < 0)) && (List.range s[i].ans.length).all (risOK s[i].ans)) := by
  unfold riseOK; rw [List.getElem?_eq_getElem hi]
theorem risOK_at {l : List (List Cell)} {k : Nat} (hk : k + 1 < l.length) : risOK l (k + 1) = decide (cmpR l[k] l[k + 1] < 0) := by
  unfold risOK
  rw [List.getElem?_eq_getElem hk, Nat.add_sub_cancel, List.getElem?_eq_getElem (by omega)]
  rfl
theorem risOK_zero (l : List (List Cell)) : risOK l 0 = true := by
  unfold risOK
  split <;> rfl
theorem lnkOK_at {n : Nat} {l : List (Int × Int)} {i : Nat} (hi : i < l.length) : lnkOK n l i = (decide (0 ≤ l[i].1) && decide (l[i].1 < n) && decide (0 ≤ l[i].2) && decide (l[i].2 < n) &&
      (i == 0 || !(decide (l[i].1 < (l[i - 1]?.getD (0, 0)).1) || decide ((l[i - 1]?.getD (0, 0)).1 = l[i].1) && decide (l[i].2 ≤ (l[i - 1]?.getD (0, 0)).2)))) := by
  unfold lnkOK; rw [List.getElem?_eq_getElem hi]
theorem mayB_1 {r : Res} (h : rightTs r.tabs = false) : mayB r = false := by unfold mayB; rw [h]; rfl
theorem mayB_2 {r : Res} {k : Nat} (hk : k < r.tabs.length) (h : riseOK r.tabs k = false) : mayB r = false := by
  unfold mayB; rw [allR_no hk h]; simp
theorem mayB_3 {r : Res} {k : Nat} (hk : k < r.lks.length) (h : lnkOK r.tabs.length r.lks k = false) : mayB r = false := by
  unfold mayB; rw [allR_no hk h]; simp


end
end Go.Proofs.YtckkjjiaecnciaaGreat
