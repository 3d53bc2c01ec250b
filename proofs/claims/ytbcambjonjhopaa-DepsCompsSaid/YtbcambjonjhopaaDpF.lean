/-
  R14: Few, Right: whether tables may be so.
  R23: May: whether a result may be.
-/
import Derived.Test.YtbcambjonjhopaaDpD
namespace Go.Proofs.Ytbcambjonjhopaa
section
open Go Go.RowKit

theorem fewT_no {t : Tab} {k : Nat} (hk : k < t.ans.length) (h : 210 < t.ans[k].length) : fewT t = false := by
  unfold fewT
  have : (t.ans.all fun a => decide (a.length ≤ 210)) = false := by
    rw [List.all_eq_false]
    exact ⟨_, List.getElem_mem hk, by simpa using h⟩
  rw [this]; simp
theorem fewT_yes {t : Tab} (h1 : t.call.length ≤ 210) (h2 : t.ans.length ≤ 30) (h : ∀ j (hj : j < t.ans.length), t.ans[j].length ≤ 210) : fewT t = true := by
  unfold fewT
  simp only [Bool.and_eq_true, decide_eq_true_eq, List.all_eq_true]
  exact ⟨⟨h1, h2⟩, fun a ha => by obtain ⟨j, hj, rfl⟩ := List.mem_iff_getElem.1 ha; exact h j hj⟩
theorem fewB_no {s : List Tab} {k : Nat} (hk : k < s.length) (h : fewT s[k] = false) : fewB s = false := by
  unfold fewB
  have : s.all fewT = false := by
    rw [List.all_eq_false]
    exact ⟨_, List.getElem_mem hk, by rw [h]; simp⟩
  rw [this]; simp
theorem fewB_yes {s : List Tab} (h1 : s.length ≤ 30) (h : ∀ j (hj : j < s.length), fewT s[j] = true) : fewB s = true := by
  unfold fewB
  simp only [Bool.and_eq_true, decide_eq_true_eq, List.all_eq_true]
  exact ⟨h1, fun a ha => by obtain ⟨j, hj, rfl⟩ := List.mem_iff_getElem.1 ha; exact h j hj⟩
theorem fewB_at {s : List Tab} (h : fewB s = true) : s.length ≤ 30 ∧ ∀ t ∈ s, t.call.length ≤ 210 ∧ t.ans.length ≤ 30 ∧ ∀ a ∈ t.ans, a.length ≤ 210 := by
  unfold fewB fewT at h
  simp only [Bool.and_eq_true, decide_eq_true_eq, List.all_eq_true] at h
  exact ⟨h.1, fun t ht => ⟨(h.2 t ht).1.1, (h.2 t ht).1.2, (h.2 t ht).2⟩⟩

set_option maxHeartbeats 3200000 in
set_option maxRecDepth 100000 in
theorem FewR14_spec {S : Nat → Prop} {w : World} {v : Value} {s : List Tab} (hs : Seq tabE S w v s) :
    Calls Try.prog 17 #[v] w (PureV (.bool (fewB s)) w) := by
  have HS := Lib.hid hs
  obtain ⟨aa, ac, rfl⟩ := hs.shape
  clear hs
  go_enter Try.func17, Try.ntmps17
  by_cases h30 : s.length ≤ 30
  · have h30' : ((30 : Int) < (s.length : Int)) = False := by simp; omega
    have h30'' : ((s.length : Int) > 30) = False := by simp; omega
    go_wp2_with fail
    go_loopw [3] (fun i wr => ∃ k : Nat, k ≤ s.length ∧ i = .int .i64 k ∧ Hid (∀ j (h : j < s.length), j < k → fewT s[j] = true) ∧ w = wr) (fun i _ => s.length - (intOf i).toNat)
    case atStart => exact ⟨0, Nat.zero_le _, rfl, Lib.hid (fun i _ h => absurd h (Nat.not_lt_zero _)), rfl⟩
    case round =>
      obtain ⟨k, hk, rfl, hno, rfl⟩ := hrel
      by_cases hlt : k < s.length
      · obtain ⟨_, _, ee, -, -, -, -, x5⟩ := HS.out
        simp only [Value.slice.injEq, true_and] at ee
        obtain ⟨rfl, rfl⟩ := ee
        obtain ⟨b1, o1, ca, cc, la, lc, rfl, -, -, c0, c1, -, hA⟩ := x5.tab hlt
        have hfn := Lib.hid (show fewT s[k] = false → fewB s = false from fun h => fewB_no hlt h)
        have hfy := Lib.hid (show fewT s[k] = true → ∀ i (h : i < s.length), i < k + 1 → fewT s[i] = true from fun h i hi hlt => by
          by_cases e : i = k
          · subst e; exact h
          · exact hno.out i hi (by omega))
        have HA := Lib.hid hA
        obtain ⟨t, ht⟩ : ∃ t, t = s[k] := ⟨_, rfl⟩
        rw [← ht] at c0 c1 HA hfn hfy
        clear ht x5 hA
        have hkl : (k : Int) < (s.length : Int) := by omega
        have hk0 : (0 : Int) ≤ (k : Int) := by omega
        by_cases hc : t.call.length ≤ 210
        · have hc' : ((210 : Int) < (t.call.length : Int)) = False := by simp; omega
          have hc'' : ((t.call.length : Int) > 210) = False := by simp; omega
          have hcN : (210 < t.call.length) = False := by simp; omega
          have Hc := Lib.hid hc
          by_cases ha : t.ans.length ≤ 30
          · have ha' : ((30 : Int) < (t.ans.length : Int)) = False := by simp; omega
            have ha'' : ((t.ans.length : Int) > 30) = False := by simp; omega
            have haN : (30 < t.ans.length) = False := by simp; omega
            go_wp2_with fail
            go_loopw [4] (fun i wr => ∃ q : Nat, q ≤ t.ans.length ∧ i = .int .i64 q ∧ Hid (∀ j (h : j < t.ans.length), j < q → t.ans[j].length ≤ 210) ∧ w = wr) (fun i _ => t.ans.length - (intOf i).toNat)
            case atStart => exact ⟨0, Nat.zero_le _, rfl, Lib.hid (fun i _ h => absurd h (Nat.not_lt_zero _)), rfl⟩
            case round =>
              obtain ⟨q, hq, rfl, hqo, rfl⟩ := hrel
              by_cases hqt : q < t.ans.length
              · obtain ⟨_, _, ee, -, -, -, -, y5⟩ := HA.out
                simp only [Value.slice.injEq, true_and] at ee
                obtain ⟨rfl, rfl⟩ := ee
                obtain ⟨b2, o2, p2, n2, rfl, -, -, d0, -⟩ := y5.seq hqt
                have hn := Lib.hid (show 210 < t.ans[q].length → fewT t = false from fun h => fewT_no hqt h)
                have hy := Lib.hid (show t.ans[q].length ≤ 210 → ∀ i (h : i < t.ans.length), i < q + 1 → t.ans[i].length ≤ 210 from fun h i hi hlt => by
                  by_cases e : i = q
                  · subst e; exact h
                  · exact hqo.out i hi (by omega))
                obtain ⟨x, hx⟩ : ∃ x, x = t.ans[q] := ⟨_, rfl⟩
                rw [← hx] at d0 hn hy
                clear hx y5
                have hqI : (q : Int) < (t.ans.length : Int) := by omega
                have hq0 : (0 : Int) ≤ (q : Int) := by omega
                by_cases hx : x.length ≤ 210
                · have hy' := Lib.hid (hy.out hx)
                  have hx' : ((210 : Int) < (x.length : Int)) = False := by simp; omega
                  have hx'' : ((x.length : Int) > 210) = False := by simp; omega
                  have hxN : (210 < x.length) = False := by simp; omega
                  clear hy hn hx
                  go_wp2_with fail
                  go_roundw
                  case rel => exact ⟨q + 1, hqt, by go_num, hy', trivial⟩
                  case measure => simp [intOf]; omega
                · have hn' := Lib.hid (hfn.out (hn.out (by omega)))
                  have hx' : (210 : Int) < (x.length : Int) := by omega
                  have hxN : 210 < x.length := by omega
                  clear hy hn hx
                  go_wp2_with fail
                  go_ret
                  exact ⟨ret_bool hn'.out.symm, rfl⟩
              · have hqI : ¬ (q : Int) < (t.ans.length : Int) := by omega
                have hy' := Lib.hid (hfy.out (fewT_yes Hc.out ha fun j hj => hqo.out j hj (by omega)))
                clear hqt hqo
                go_wp2_with fail
                go_roundw
                case rel => exact ⟨k + 1, hlt, by go_num, hy', trivial⟩
                case measure => simp [intOf]; omega
          · have ha' : (30 : Int) < (t.ans.length : Int) := by omega
            have haN : 30 < t.ans.length := by omega
            have hn' := Lib.hid (hfn.out (by unfold fewT; rw [decide_eq_false ha]; simp))
            clear ha
            go_wp2_with fail
            go_ret
            exact ⟨ret_bool hn'.out.symm, rfl⟩
        · have hc' : (210 : Int) < (t.call.length : Int) := by omega
          have hcN : 210 < t.call.length := by omega
          have hn' := Lib.hid (hfn.out (by unfold fewT; rw [decide_eq_false hc]; simp))
          clear hc
          go_wp2_with fail
          go_ret
          exact ⟨ret_bool hn'.out.symm, rfl⟩
      · have hkl : ¬ (k : Int) < (s.length : Int) := by omega
        have hd := Lib.hid (fewB_yes h30 fun j hj => hno.out j hj (by omega))
        clear hlt
        go_wp2_with fail
        go_ret
        exact ⟨ret_bool hd.out.symm, rfl⟩
  · have h30' : (30 : Int) < (s.length : Int) := by omega
    have h30N : 30 < s.length := by omega
    have hd := Lib.hid (show fewB s = false by unfold fewB; rw [decide_eq_false h30]; rfl)
    clear h30
    go_wp2_with fail
    go_ret
    exact ⟨ret_bool hd.out.symm, rfl⟩

theorem tabOK_at {s : List Tab} {i : Nat} (hi : i < s.length) : tabOK s i = (atomT' s[i].call && decide (numT s[i].call = s[i].call) && decide (findTb s s[i].call = (i : Int)) && (List.range s[i].ans.length).all (ansOK s[i])) := by
  unfold tabOK; rw [List.getElem?_eq_getElem hi]
theorem ansOK_at {t : Tab} {k : Nat} (hk : k < t.ans.length) : ansOK t k = (instB t.call t.ans[k] && !hasT (t.ans.take k) t.ans[k]) := by
  unfold ansOK; rw [List.getElem?_eq_getElem hk]

set_option maxHeartbeats 6400000 in
set_option maxRecDepth 100000 in
theorem RightR14_spec {S : Nat → Prop} {w : World} {v : Value} {s : List Tab} (hs : Seq tabE S w v s) (hfew : fewB s = true) :
    Calls Try.prog 31 #[v] w (RetV (.bool (rightTs s)) w) := by
  have HF := Lib.hid (fewB_at hfew)
  have HS := Lib.hid hs
  have hll : s.length ≤ 30 := (fewB_at hfew).1
  obtain ⟨aa, ac, rfl⟩ := hs.shape
  clear hs hfew
  go_enter Try.func31, Try.ntmps31
  go_wp2_with fail
  go_loopw [3] (fun i wr => ∃ k : Nat, k ≤ s.length ∧ i = .int .i64 k ∧ Hid (∀ j, j < k → tabOK s j = true) ∧ Hid (Below w.heap.size w wr)) (fun i _ => s.length - (intOf i).toNat)
  case atStart => exact ⟨0, Nat.zero_le _, rfl, Lib.hid (fun i h => absurd h (Nat.not_lt_zero _)), Lib.hid (Below.refl _ _)⟩
  case round =>
    obtain ⟨k, hk, rfl, hno, hbr⟩ := hrel
    by_cases hlt : k < s.length
    · obtain ⟨_, _, ee, -, -, -, -, x5⟩ := HS.out.at hbr.out
      simp only [Value.slice.injEq, true_and] at ee
      obtain ⟨rfl, rfl⟩ := ee
      obtain ⟨b1, o1, ca, cc, la, lc, rfl, -, l1, c0, c1, hC, hA⟩ := x5.tab hlt
      have hfn := Lib.hid (show tabOK s k = false → rightTs s = false from fun h => allR_no hlt h)
      have hfy := Lib.hid (show tabOK s k = true → ∀ i, i < k + 1 → tabOK s i = true from fun h i hi => by
        by_cases e : i = k
        · subst e; exact h
        · exact hno.out i (by omega))
      have hat := Lib.hid (tabOK_at hlt)
      obtain ⟨f1, f2, f3⟩ := HF.out.2 _ (List.getElem_mem hlt)
      have HC := Lib.hid hC
      have HA := Lib.hid hA
      obtain ⟨t, ht⟩ : ∃ t, t = s[k] := ⟨_, rfl⟩
      rw [← ht] at c0 c1 HA HC hat f1 f2 f3
      have F3 := Lib.hid f3
      clear ht x5 hA hC f3
      have hkl : (k : Int) < (s.length : Int) := by omega
      have hk0 : (0 : Int) ≤ (k : Int) := by omega
      go_wp2_with fail
      refine (AtomR14_spec HC.out).mono ?_
      rintro e y1 ⟨rfl, hy1⟩
      have Y1 := Lib.hid hy1
      replace c1 : y1.cell? ⟨b1, o1 + k * 2 + 1, none⟩ = _ := (hy1.cell (p := ⟨b1, o1 + k * 2 + 1, none⟩) l1).trans c1
      clear hy1 c0
      cases hat1 : atomT' t.call with
      | false =>
        have hd := Lib.hid (hfn.out (by rw [hat.out, hat1]; rfl))
        clear hat1 c1
        go_wp2_with fail
        go_ret
        exact ⟨ret_bool hd.out.symm, below_step Y1.out hbr.out⟩
      | true =>
        have hpos : 0 < t.call.length := by
          unfold atomT' at hat1
          rw [Bool.and_eq_true] at hat1
          exact (of_decide_eq_true hat1.1 : RightT t.call).pos
        have A1 := Lib.hid hat1
        clear hat1
        go_wp2_with fail
        refine (NumberR_spec (HC.out.at Y1.out) hpos (by omega)).mono ?_
        rintro e y2 ⟨v2, rfl, hy2, hs2⟩
        obtain ⟨va, vc, rfl⟩ := hs2.shape
        have N2 := Lib.hid hs2
        have Y2 := Lib.hid (below_step hy2 Y1.out)
        replace c1 : y2.cell? ⟨b1, o1 + k * 2 + 1, none⟩ = _ := (hy2.cell (p := ⟨b1, o1 + k * 2 + 1, none⟩) (Nat.lt_of_lt_of_le l1 Y1.out.size)).trans c1
        clear hy2 hs2
        go_wp2_with fail
        refine (SameT_spec N2.out (HC.out.at Y2.out)).mono ?_
        rintro e y3 ⟨rfl, hq⟩
        have hy3 := Drew.below hq y2.heap.size
        have Y3 := Lib.hid (below_step hy3 Y2.out)
        replace c1 : y3.cell? ⟨b1, o1 + k * 2 + 1, none⟩ = _ := (hy3.cell (p := ⟨b1, o1 + k * 2 + 1, none⟩) (Nat.lt_of_lt_of_le l1 Y2.out.size)).trans c1
        clear hq hy3
        by_cases hn : numT t.call = t.call
        · rw [decide_eq_true hn]
          have Hn := Lib.hid hn
          clear hn
          go_wp2_with fail
          refine (FindR14_spec (HS.out.at (below_step Y3.out hbr.out)) (HC.out.at Y3.out) hpos (by omega)).mono ?_
          rintro e y4 ⟨rfl, hy4⟩
          have Y4 := Lib.hid (below_step hy4 Y3.out)
          replace c1 : y4.cell? ⟨b1, o1 + k * 2 + 1, none⟩ = _ := (hy4.cell (p := ⟨b1, o1 + k * 2 + 1, none⟩) (Nat.lt_of_lt_of_le l1 Y3.out.size)).trans c1
          have l4 : b1 < y4.heap.size := Nat.lt_of_lt_of_le l1 Y4.out.size
          clear hy4
          by_cases hfd : findTb s t.call = (k : Int)
          · have hfd' : (findTb s t.call != (k : Int)) = false := by simpa using hfd
            have hat2 := Lib.hid (show tabOK s k = (List.range t.ans.length).all (ansOK t) by rw [hat.out, A1.out, decide_eq_true Hn.out, decide_eq_true hfd]; rfl)
            clear hfd hat
            go_wp2_with fail
            go_loopw [5] (fun i wz => ∃ q : Nat, q ≤ t.ans.length ∧ i = .int .i64 q ∧ Hid (∀ j, j < q → ansOK t j = true) ∧ Hid (Below y4.heap.size y4 wz)) (fun i _ => t.ans.length - (intOf i).toNat)
            case atStart => exact ⟨0, Nat.zero_le _, rfl, Lib.hid (fun i h => absurd h (Nat.not_lt_zero _)), Lib.hid (Below.refl _ _)⟩
            case round =>
              obtain ⟨q, hq, rfl, hqo, hbz⟩ := hrel
              replace c1 : wr.cell? ⟨b1, o1 + k * 2 + 1, none⟩ = _ := (hbz.out.cell (p := ⟨b1, o1 + k * 2 + 1, none⟩) l4).trans c1
              replace l4 : b1 < wr.heap.size := Nat.lt_of_lt_of_le l4 hbz.out.size
              have Z4 := Lib.hid (below_step hbz.out Y4.out)
              by_cases hqt : q < t.ans.length
              · obtain ⟨_, _, ee, hle, -, -, -, y5⟩ := HA.out.at Z4.out
                simp only [Value.slice.injEq, true_and] at ee
                obtain ⟨rfl, rfl⟩ := ee
                obtain ⟨b2, o2, p2, n2, rfl, -, l2, d0, hX⟩ := y5.seq hqt
                have HX := Lib.hid hX
                have HC4 := Lib.hid (HC.out.at Z4.out)
                have htk := Lib.hid ((HA.out.at Z4.out).take (j := q) (by omega))
                have hon := Lib.hid (show ansOK t q = false → rightTs s = false from fun h => hfn.out (by rw [hat2.out]; exact allR_no hqt h))
                have hoy := Lib.hid (show ansOK t q = true → ∀ i, i < q + 1 → ansOK t i = true from fun h i hi => by
                  by_cases e : i = q
                  · subst e; exact h
                  · exact hqo.out i (by omega))
                have hao := Lib.hid (ansOK_at hqt)
                have hxl := F3.out _ (List.getElem_mem hqt)
                obtain ⟨x, hx⟩ : ∃ x, x = t.ans[q] := ⟨_, rfl⟩
                rw [← hx] at d0 HX hao hxl
                have hqc : q ≤ lc := by omega
                have hqI : (q : Int) < (t.ans.length : Int) := by omega
                have hq0 : (0 : Int) ≤ (q : Int) := by omega
                have hqC : (q : Int) ≤ (lc : Int) := by omega
                have hql : q ≤ t.ans.length := by omega
                have hspec := Lib.hid (fun (W' : World) (h : Below wr.heap.size wr W') => InstanceR14_spec (HC4.out.at h) (HX.out.at h) (by omega) (by omega))
                have hspec2 := Lib.hid (fun (W' : World) (h : Below wr.heap.size wr W') => HasR14_spec (htk.out.at h) (HX.out.at h))
                have Kq := fun {W' : World} (h : Below wr.heap.size wr W') => Lib.hid (show W'.cell? ⟨b1, o1 + k * 2 + 1, none⟩ = some (.slice (some ⟨b2, o2, none⟩) t.ans.length lc) ∧ W'.cell? ⟨b2, o2 + q, none⟩ = some (.slice p2 x.length n2) from
                  ⟨(h.cell (p := ⟨b1, o1 + k * 2 + 1, none⟩) l4).trans c1, (h.cell (p := ⟨b2, o2 + q, none⟩) l2).trans d0⟩)
                clear hx y5 hX hle
                cases hi : instB t.call x with
                | false =>
                  rw [hi] at hspec
                  have hd := Lib.hid (hon.out (by rw [hao.out, hi]; rfl))
                  clear hi
                  go_upto_region 10 with fail
                  clear c1 d0
                  (try simp only [List.append_eq, List.cons_append, List.nil_append])
                  refine wp_region_noPanic ?_
                  refine wp_region_held_drew (S := fun w' => w'.cell? ⟨b1, o1 + k * 2 + 1, none⟩ = some (.slice (some ⟨b2, o2, none⟩) t.ans.length lc) ∧ w'.cell? ⟨b2, o2 + q, none⟩ = some (.slice p2 x.length n2)) (by kernel_rfl) ?_ (fun hHeld => ?_)
                  · exact (Kq (Below.drew (Below.refl _ _))).out
                  refine wpAnyH_take1 (i := 0) (oi := _) (v := ?_) (by kernel_rfl) rfl (by kernel_rfl) (fun _ _ _ h => h) (Or.inl ⟨by rfl, ?_⟩) (by assumption) ?_
                  rotate_left 1
                  · intro w hSw; (try dsimp only at hSw); go_simp; (with_reducible rfl)
                  (try simp only [Act.put, List.getElem_toArray, List.getElem_cons_zero, List.setIfInBounds_toArray, List.set_cons_zero, List.set_cons_succ])
                  refine wpAnyH_take1 (i := 1) (oi := _) (v := ?_) (by kernel_rfl) rfl (by kernel_rfl) (fun _ _ _ h => h) (Or.inl ⟨by rfl, ?_⟩) (by assumption) ?_
                  rotate_left 1
                  · intro w hSw; (try dsimp only at hSw); go_simp; (with_reducible rfl)
                  (try simp only [Act.put, List.getElem_toArray, List.getElem_cons_zero, List.getElem_cons_succ, List.setIfInBounds_toArray, List.set_cons_zero, List.set_cons_succ])
                  refine wpAnyH_take1 (i := 2) (oi := _) (v := ?_) (by kernel_rfl) rfl (by kernel_rfl) (fun _ _ _ h => h) (Or.inl ⟨by rfl, ?_⟩) (by assumption) ?_
                  rotate_left 1
                  · intro w hSw; (try dsimp only at hSw); go_simp; (with_reducible rfl)
                  (try simp only [Act.put, List.getElem_toArray, List.getElem_cons_zero, List.getElem_cons_succ, List.setIfInBounds_toArray, List.set_cons_zero, List.set_cons_succ])
                  refine wpAnyH_take1 (i := 3) (oi := _) (v := ?_) (by kernel_rfl) rfl (by kernel_rfl) (fun _ _ _ h => h) (Or.inl ⟨by rfl, ?_⟩) (by assumption) ?_
                  rotate_left 1
                  · intro w hSw; (try dsimp only at hSw); go_simp; (with_reducible rfl)
                  (try simp only [Act.put, List.getElem_toArray, List.getElem_cons_zero, List.getElem_cons_succ, List.setIfInBounds_toArray, List.set_cons_zero, List.set_cons_succ])
                  refine wpAnyH_take1 (i := 4) (oi := _) (v := ?_) (by kernel_rfl) rfl (by kernel_rfl) (fun _ _ _ h => h) (Or.inl ⟨by rfl, ?_⟩) (by assumption) ?_
                  rotate_left 1
                  · intro w hSw; (try dsimp only at hSw); go_simp; (with_reducible rfl)
                  (try simp only [Act.put, List.getElem_toArray, List.getElem_cons_zero, List.getElem_cons_succ, List.setIfInBounds_toArray, List.set_cons_zero, List.set_cons_succ])
                  refine wpAnyH_take1 (i := 5) (oi := _) (v := ?_) (by kernel_rfl) rfl (by kernel_rfl) (fun _ _ _ h => h) (Or.inl ⟨by rfl, ?_⟩) (by assumption) ?_
                  rotate_left 1
                  · intro w hSw; (try dsimp only at hSw); go_simp; (with_reducible rfl)
                  (try simp only [Act.put, List.getElem_toArray, List.getElem_cons_zero, List.getElem_cons_succ, List.setIfInBounds_toArray, List.set_cons_zero, List.set_cons_succ])
                  refine wpAnyH_take1 (i := 6) (oi := _) (v := ?_) (by kernel_rfl) rfl (by kernel_rfl) (fun _ _ _ h => h) (Or.inl ⟨by rfl, ?_⟩) (by assumption) ?_
                  rotate_left 1
                  · intro w hSw; (try dsimp only at hSw); go_simp; (with_reducible rfl)
                  (try simp only [Act.put, List.getElem_toArray, List.getElem_cons_zero, List.getElem_cons_succ, List.setIfInBounds_toArray, List.set_cons_zero, List.set_cons_succ])
                  refine wpAnyH_take1 (i := 7) (oi := _) (v := ?_) (by kernel_rfl) rfl (by kernel_rfl) (fun _ _ _ h => h) (Or.inl ⟨by rfl, ?_⟩) (by assumption) ?_
                  rotate_left 1
                  · intro w hSw; (try dsimp only at hSw); go_simp; (with_reducible rfl)
                  (try simp only [Act.put, List.getElem_toArray, List.getElem_cons_zero, List.getElem_cons_succ, List.setIfInBounds_toArray, List.set_cons_zero, List.set_cons_succ])
                  refine wpAnyH_take1 (i := 8) (oi := _) (v := ?_) (by kernel_rfl) rfl (by kernel_rfl) (fun _ _ _ h => h) (Or.inl ⟨by rfl, ?_⟩) (by assumption) ?_
                  rotate_left 1
                  · intro w hSw; (try dsimp only at hSw); go_simp; (with_reducible rfl)
                  (try simp only [Act.put, List.getElem_toArray, List.getElem_cons_zero, List.getElem_cons_succ, List.setIfInBounds_toArray, List.set_cons_zero, List.set_cons_succ])
                  refine wpAnyH_one (i := 9) (by kernel_rfl) rfl (by rfl) fun K hK => ?_
                  go_simp
                  refine (hspec.out _ Seq.way).mono ?_
                  rintro e y3 ⟨rfl, hy3⟩
                  have HY3 := below_step hy3 (Seq.way : Below wr.heap.size wr _)
                  have zy3 := HY3.size
                  (try dsimp only)
                  clear hHeld
                  refine hK.out _ _ (Kq HY3).out fun hHeld => ?_
                  clear hK K
                  (try simp only [Act.put, List.getElem_toArray, List.getElem_cons_zero, List.getElem_cons_succ, List.setIfInBounds_toArray, List.set_cons_zero, List.set_cons_succ])
                  refine wpAnyH_take1 (i := 10) (oi := _) (v := ?_) (by kernel_rfl) rfl (by kernel_rfl) (fun _ _ _ h => h) (Or.inl ⟨by rfl, ?_⟩) (by assumption) ?_
                  rotate_left 1
                  · intro w hSw; (try dsimp only at hSw); go_simp; (with_reducible rfl)
                  (try simp only [Act.put, List.getElem_toArray, List.getElem_cons_zero, List.getElem_cons_succ, List.setIfInBounds_toArray, List.set_cons_zero, List.set_cons_succ])
                  refine wpAnyH_take1 (i := 11) (oi := _) (v := ?_) (by kernel_rfl) rfl (by kernel_rfl) (fun _ _ _ h => h) (Or.inl ⟨by rfl, ?_⟩) (by assumption) ?_
                  rotate_left 1
                  · intro w hSw; (try dsimp only at hSw); go_simp; (with_reducible rfl)
                  (try simp only [Act.put, List.getElem_toArray, List.getElem_cons_zero, List.getElem_cons_succ, List.setIfInBounds_toArray, List.set_cons_zero, List.set_cons_succ])
                  refine wpAnyH_take1 (i := 12) (oi := _) (v := undef) (by kernel_rfl) rfl (by kernel_rfl) (fun _ _ _ h => h) (Or.inr ⟨by rfl, rfl⟩) (by assumption) ?_
                  (try simp only [Act.put, List.getElem_toArray, List.getElem_cons_zero, List.getElem_cons_succ, List.setIfInBounds_toArray, List.set_cons_zero, List.set_cons_succ])
                  refine wpAnyH_take1 (i := 13) (oi := _) (v := undef) (by kernel_rfl) rfl (by kernel_rfl) (fun _ _ _ h => h) (Or.inr ⟨by rfl, rfl⟩) (by assumption) ?_
                  (try simp only [Act.put, List.getElem_toArray, List.getElem_cons_zero, List.getElem_cons_succ, List.setIfInBounds_toArray, List.set_cons_zero, List.set_cons_succ])
                  refine wpAnyH_take1 (i := 14) (oi := _) (v := undef) (by kernel_rfl) rfl (by kernel_rfl) (fun _ _ _ h => h) (Or.inr ⟨by rfl, rfl⟩) (by assumption) ?_
                  (try simp only [Act.put, List.getElem_toArray, List.getElem_cons_zero, List.getElem_cons_succ, List.setIfInBounds_toArray, List.set_cons_zero, List.set_cons_succ])
                  refine wpAnyH_take1 (i := 15) (oi := _) (v := undef) (by kernel_rfl) rfl (by kernel_rfl) (fun _ _ _ h => h) (Or.inr ⟨by rfl, rfl⟩) (by assumption) ?_
                  (try simp only [Act.put, List.getElem_toArray, List.getElem_cons_zero, List.getElem_cons_succ, List.setIfInBounds_toArray, List.set_cons_zero, List.set_cons_succ])
                  refine wpAnyH_take1 (i := 16) (oi := _) (v := undef) (by kernel_rfl) rfl (by kernel_rfl) (fun _ _ _ h => h) (Or.inr ⟨by rfl, rfl⟩) (by assumption) ?_
                  (try simp only [Act.put, List.getElem_toArray, List.getElem_cons_zero, List.getElem_cons_succ, List.setIfInBounds_toArray, List.set_cons_zero, List.set_cons_succ])
                  refine wpAnyH_take1 (i := 17) (oi := _) (v := undef) (by kernel_rfl) rfl (by kernel_rfl) (fun _ _ _ h => h) (Or.inr ⟨by rfl, rfl⟩) (by assumption) ?_
                  (try simp only [Act.put, List.getElem_toArray, List.getElem_cons_zero, List.getElem_cons_succ, List.setIfInBounds_toArray, List.set_cons_zero, List.set_cons_succ])
                  refine wpAnyH_take1 (i := 18) (oi := _) (v := undef) (by kernel_rfl) rfl (by kernel_rfl) (fun _ _ _ h => h) (Or.inr ⟨by rfl, rfl⟩) (by assumption) ?_
                  (try simp only [Act.put, List.getElem_toArray, List.getElem_cons_zero, List.getElem_cons_succ, List.setIfInBounds_toArray, List.set_cons_zero, List.set_cons_succ])
                  refine wpAnyH_take1 (i := 19) (oi := _) (v := undef) (by kernel_rfl) rfl (by kernel_rfl) (fun _ _ _ h => h) (Or.inr ⟨by rfl, rfl⟩) (by assumption) ?_
                  (try simp only [Act.put, List.getElem_toArray, List.getElem_cons_zero, List.getElem_cons_succ, List.setIfInBounds_toArray, List.set_cons_zero, List.set_cons_succ])
                  refine wpAnyH_take1 (i := 20) (oi := _) (v := undef) (by kernel_rfl) rfl (by kernel_rfl) (fun _ _ _ h => h) (Or.inr ⟨by rfl, rfl⟩) (by assumption) ?_
                  (try simp only [Act.put, List.getElem_toArray, List.getElem_cons_zero, List.getElem_cons_succ, List.setIfInBounds_toArray, List.set_cons_zero, List.set_cons_succ])
                  refine wpAnyH_take1 (i := 21) (oi := _) (v := undef) (by kernel_rfl) rfl (by kernel_rfl) (fun _ _ _ h => h) (Or.inr ⟨by rfl, rfl⟩) (by assumption) ?_
                  (try simp only [Act.put, List.getElem_toArray, List.getElem_cons_zero, List.getElem_cons_succ, List.setIfInBounds_toArray, List.set_cons_zero, List.set_cons_succ])
                  refine wpAnyH_take1 (i := 22) (oi := _) (v := undef) (by kernel_rfl) rfl (by kernel_rfl) (fun _ _ _ h => h) (Or.inr ⟨by rfl, rfl⟩) (by assumption) ?_
                  (try simp only [Act.put, List.getElem_toArray, List.getElem_cons_zero, List.getElem_cons_succ, List.setIfInBounds_toArray, List.set_cons_zero, List.set_cons_succ])
                  refine wpAnyH_take1 (i := 23) (oi := _) (v := undef) (by kernel_rfl) rfl (by kernel_rfl) (fun _ _ _ h => h) (Or.inr ⟨by rfl, rfl⟩) (by assumption) ?_
                  (try simp only [Act.put, List.getElem_toArray, List.getElem_cons_zero, List.getElem_cons_succ, List.setIfInBounds_toArray, List.set_cons_zero, List.set_cons_succ])
                  refine wpAnyH_take1 (i := 24) (oi := _) (v := undef) (by kernel_rfl) rfl (by kernel_rfl) (fun _ _ _ h => h) (Or.inr ⟨by rfl, rfl⟩) (by assumption) ?_
                  (try simp only [Act.put, List.getElem_toArray, List.getElem_cons_zero, List.getElem_cons_succ, List.setIfInBounds_toArray, List.set_cons_zero, List.set_cons_succ])
                  refine wpAnyH_take1 (i := 25) (oi := _) (v := undef) (by kernel_rfl) rfl (by kernel_rfl) (fun _ _ _ h => h) (Or.inr ⟨by rfl, rfl⟩) (by assumption) ?_
                  (try simp only [Act.put, List.getElem_toArray, List.getElem_cons_zero, List.getElem_cons_succ, List.setIfInBounds_toArray, List.set_cons_zero, List.set_cons_succ])
                  refine wpAnyH_take1 (i := 26) (oi := _) (v := undef) (by kernel_rfl) rfl (by kernel_rfl) (fun _ _ _ h => h) (Or.inr ⟨by rfl, rfl⟩) (by assumption) ?_
                  (try simp only [Act.put, List.getElem_toArray, List.getElem_cons_zero, List.getElem_cons_succ, List.setIfInBounds_toArray, List.set_cons_zero, List.set_cons_succ])
                  refine wpAnyH_take1 (i := 27) (oi := _) (v := undef) (by kernel_rfl) rfl (by kernel_rfl) (fun _ _ _ h => h) (Or.inr ⟨by rfl, rfl⟩) (by assumption) ?_
                  (try simp only [Act.put, List.getElem_toArray, List.getElem_cons_zero, List.getElem_cons_succ, List.setIfInBounds_toArray, List.set_cons_zero, List.set_cons_succ])
                  refine wpAnyH_take1 (i := 28) (oi := _) (v := ?_) (by kernel_rfl) rfl (by kernel_rfl) (fun _ _ _ h => h) (Or.inl ⟨by rfl, ?_⟩) (by assumption) ?_
                  rotate_left 1
                  · intro w hSw; (try dsimp only at hSw); go_simp; (with_reducible rfl)
                  (try simp only [Act.put, List.getElem_toArray, List.getElem_cons_zero, List.getElem_cons_succ, List.setIfInBounds_toArray, List.set_cons_zero, List.set_cons_succ])
                  refine wpAnyH_done (by kernel_rfl) ?_ _
                  refine NoPanic.normal ?_
                  go_wp2_with fail
                  go_ret
                  exact ⟨ret_bool hd.out.symm, below_step HY3 (below_step Z4.out hbr.out)⟩
                | true =>
                  rw [hi] at hspec
                  have hao2 := Lib.hid (show ansOK t q = !hasT (t.ans.take q) x by rw [hao.out, hi]; rfl)
                  clear hi hao
                  cases hh : hasT (t.ans.take q) x with
                  | true =>
                    rw [hh] at hspec2
                    have hd := Lib.hid (hon.out (by rw [hao2.out, hh]; rfl))
                    clear hh
                    go_upto_region 10 with fail
                    clear c1 d0
                    (try simp only [List.append_eq, List.cons_append, List.nil_append])
                    refine wp_region_noPanic ?_
                    refine wp_region_held_drew (S := fun w' => w'.cell? ⟨b1, o1 + k * 2 + 1, none⟩ = some (.slice (some ⟨b2, o2, none⟩) t.ans.length lc) ∧ w'.cell? ⟨b2, o2 + q, none⟩ = some (.slice p2 x.length n2)) (by kernel_rfl) ?_ (fun hHeld => ?_)
                    · exact (Kq (Below.drew (Below.refl _ _))).out
                    refine wpAnyH_take1 (i := 0) (oi := _) (v := ?_) (by kernel_rfl) rfl (by kernel_rfl) (fun _ _ _ h => h) (Or.inl ⟨by rfl, ?_⟩) (by assumption) ?_
                    rotate_left 1
                    · intro w hSw; (try dsimp only at hSw); go_simp; (with_reducible rfl)
                    (try simp only [Act.put, List.getElem_toArray, List.getElem_cons_zero, List.setIfInBounds_toArray, List.set_cons_zero, List.set_cons_succ])
                    refine wpAnyH_take1 (i := 1) (oi := _) (v := ?_) (by kernel_rfl) rfl (by kernel_rfl) (fun _ _ _ h => h) (Or.inl ⟨by rfl, ?_⟩) (by assumption) ?_
                    rotate_left 1
                    · intro w hSw; (try dsimp only at hSw); go_simp; (with_reducible rfl)
                    (try simp only [Act.put, List.getElem_toArray, List.getElem_cons_zero, List.getElem_cons_succ, List.setIfInBounds_toArray, List.set_cons_zero, List.set_cons_succ])
                    refine wpAnyH_take1 (i := 2) (oi := _) (v := ?_) (by kernel_rfl) rfl (by kernel_rfl) (fun _ _ _ h => h) (Or.inl ⟨by rfl, ?_⟩) (by assumption) ?_
                    rotate_left 1
                    · intro w hSw; (try dsimp only at hSw); go_simp; (with_reducible rfl)
                    (try simp only [Act.put, List.getElem_toArray, List.getElem_cons_zero, List.getElem_cons_succ, List.setIfInBounds_toArray, List.set_cons_zero, List.set_cons_succ])
                    refine wpAnyH_take1 (i := 3) (oi := _) (v := ?_) (by kernel_rfl) rfl (by kernel_rfl) (fun _ _ _ h => h) (Or.inl ⟨by rfl, ?_⟩) (by assumption) ?_
                    rotate_left 1
                    · intro w hSw; (try dsimp only at hSw); go_simp; (with_reducible rfl)
                    (try simp only [Act.put, List.getElem_toArray, List.getElem_cons_zero, List.getElem_cons_succ, List.setIfInBounds_toArray, List.set_cons_zero, List.set_cons_succ])
                    refine wpAnyH_take1 (i := 4) (oi := _) (v := ?_) (by kernel_rfl) rfl (by kernel_rfl) (fun _ _ _ h => h) (Or.inl ⟨by rfl, ?_⟩) (by assumption) ?_
                    rotate_left 1
                    · intro w hSw; (try dsimp only at hSw); go_simp; (with_reducible rfl)
                    (try simp only [Act.put, List.getElem_toArray, List.getElem_cons_zero, List.getElem_cons_succ, List.setIfInBounds_toArray, List.set_cons_zero, List.set_cons_succ])
                    refine wpAnyH_take1 (i := 5) (oi := _) (v := ?_) (by kernel_rfl) rfl (by kernel_rfl) (fun _ _ _ h => h) (Or.inl ⟨by rfl, ?_⟩) (by assumption) ?_
                    rotate_left 1
                    · intro w hSw; (try dsimp only at hSw); go_simp; (with_reducible rfl)
                    (try simp only [Act.put, List.getElem_toArray, List.getElem_cons_zero, List.getElem_cons_succ, List.setIfInBounds_toArray, List.set_cons_zero, List.set_cons_succ])
                    refine wpAnyH_take1 (i := 6) (oi := _) (v := ?_) (by kernel_rfl) rfl (by kernel_rfl) (fun _ _ _ h => h) (Or.inl ⟨by rfl, ?_⟩) (by assumption) ?_
                    rotate_left 1
                    · intro w hSw; (try dsimp only at hSw); go_simp; (with_reducible rfl)
                    (try simp only [Act.put, List.getElem_toArray, List.getElem_cons_zero, List.getElem_cons_succ, List.setIfInBounds_toArray, List.set_cons_zero, List.set_cons_succ])
                    refine wpAnyH_take1 (i := 7) (oi := _) (v := ?_) (by kernel_rfl) rfl (by kernel_rfl) (fun _ _ _ h => h) (Or.inl ⟨by rfl, ?_⟩) (by assumption) ?_
                    rotate_left 1
                    · intro w hSw; (try dsimp only at hSw); go_simp; (with_reducible rfl)
                    (try simp only [Act.put, List.getElem_toArray, List.getElem_cons_zero, List.getElem_cons_succ, List.setIfInBounds_toArray, List.set_cons_zero, List.set_cons_succ])
                    refine wpAnyH_take1 (i := 8) (oi := _) (v := ?_) (by kernel_rfl) rfl (by kernel_rfl) (fun _ _ _ h => h) (Or.inl ⟨by rfl, ?_⟩) (by assumption) ?_
                    rotate_left 1
                    · intro w hSw; (try dsimp only at hSw); go_simp; (with_reducible rfl)
                    (try simp only [Act.put, List.getElem_toArray, List.getElem_cons_zero, List.getElem_cons_succ, List.setIfInBounds_toArray, List.set_cons_zero, List.set_cons_succ])
                    refine wpAnyH_one (i := 9) (by kernel_rfl) rfl (by rfl) fun K hK => ?_
                    go_simp
                    refine (hspec.out _ Seq.way).mono ?_
                    rintro e y3 ⟨rfl, hy3⟩
                    have HY3 := below_step hy3 (Seq.way : Below wr.heap.size wr _)
                    have zy3 := HY3.size
                    (try dsimp only)
                    clear hHeld
                    refine hK.out _ _ (Kq HY3).out fun hHeld => ?_
                    clear hK K
                    (try simp only [Act.put, List.getElem_toArray, List.getElem_cons_zero, List.getElem_cons_succ, List.setIfInBounds_toArray, List.set_cons_zero, List.set_cons_succ])
                    refine wpAnyH_take1 (i := 10) (oi := _) (v := ?_) (by kernel_rfl) rfl (by kernel_rfl) (fun _ _ _ h => h) (Or.inl ⟨by rfl, ?_⟩) (by assumption) ?_
                    rotate_left 1
                    · intro w hSw; (try dsimp only at hSw); go_simp; (with_reducible rfl)
                    (try simp only [Act.put, List.getElem_toArray, List.getElem_cons_zero, List.getElem_cons_succ, List.setIfInBounds_toArray, List.set_cons_zero, List.set_cons_succ])
                    refine wpAnyH_take1 (i := 11) (oi := _) (v := ?_) (by kernel_rfl) rfl (by kernel_rfl) (fun _ _ _ h => h) (Or.inl ⟨by rfl, ?_⟩) (by assumption) ?_
                    rotate_left 1
                    · intro w hSw; (try dsimp only at hSw); go_simp; (with_reducible rfl)
                    (try simp only [Act.put, List.getElem_toArray, List.getElem_cons_zero, List.getElem_cons_succ, List.setIfInBounds_toArray, List.set_cons_zero, List.set_cons_succ])
                    refine wpAnyH_take1 (i := 12) (oi := _) (v := ?_) (by kernel_rfl) rfl (by kernel_rfl) (fun _ _ _ h => h) (Or.inl ⟨by rfl, ?_⟩) (by assumption) ?_
                    rotate_left 1
                    · intro w hSw; (try dsimp only at hSw); go_simp; (with_reducible rfl)
                    (try simp only [Act.put, List.getElem_toArray, List.getElem_cons_zero, List.getElem_cons_succ, List.setIfInBounds_toArray, List.set_cons_zero, List.set_cons_succ])
                    refine wpAnyH_take1 (i := 13) (oi := _) (v := ?_) (by kernel_rfl) rfl (by kernel_rfl) (fun _ _ _ h => h) (Or.inl ⟨by rfl, ?_⟩) (by assumption) ?_
                    rotate_left 1
                    · intro w hSw; (try dsimp only at hSw); go_simp; (with_reducible rfl)
                    (try simp only [Act.put, List.getElem_toArray, List.getElem_cons_zero, List.getElem_cons_succ, List.setIfInBounds_toArray, List.set_cons_zero, List.set_cons_succ])
                    refine wpAnyH_take1 (i := 14) (oi := _) (v := ?_) (by kernel_rfl) rfl (by kernel_rfl) (fun _ _ _ h => h) (Or.inl ⟨by rfl, ?_⟩) (by assumption) ?_
                    rotate_left 1
                    · intro w hSw; (try dsimp only at hSw); go_simp; (with_reducible rfl)
                    (try simp only [Act.put, List.getElem_toArray, List.getElem_cons_zero, List.getElem_cons_succ, List.setIfInBounds_toArray, List.set_cons_zero, List.set_cons_succ])
                    refine wpAnyH_take1 (i := 15) (oi := _) (v := ?_) (by kernel_rfl) rfl (by kernel_rfl) (fun _ _ _ h => h) (Or.inl ⟨by rfl, ?_⟩) (by assumption) ?_
                    rotate_left 1
                    · intro w hSw; (try dsimp only at hSw); go_simp; (with_reducible rfl)
                    (try simp only [Act.put, List.getElem_toArray, List.getElem_cons_zero, List.getElem_cons_succ, List.setIfInBounds_toArray, List.set_cons_zero, List.set_cons_succ])
                    refine wpAnyH_take1 (i := 16) (oi := _) (v := ?_) (by kernel_rfl) rfl (by kernel_rfl) (fun _ _ _ h => h) (Or.inl ⟨by rfl, ?_⟩) (by assumption) ?_
                    rotate_left 1
                    · intro w hSw; (try dsimp only at hSw); go_simp; (with_reducible rfl)
                    (try simp only [Act.put, List.getElem_toArray, List.getElem_cons_zero, List.getElem_cons_succ, List.setIfInBounds_toArray, List.set_cons_zero, List.set_cons_succ])
                    refine wpAnyH_take1 (i := 17) (oi := _) (v := ?_) (by kernel_rfl) rfl (by kernel_rfl) (fun _ _ _ h => h) (Or.inl ⟨by rfl, ?_⟩) (by assumption) ?_
                    rotate_left 1
                    · intro w hSw; (try dsimp only at hSw); go_simp; (with_reducible rfl)
                    (try simp only [Act.put, List.getElem_toArray, List.getElem_cons_zero, List.getElem_cons_succ, List.setIfInBounds_toArray, List.set_cons_zero, List.set_cons_succ])
                    refine wpAnyH_take1 (i := 18) (oi := _) (v := ?_) (by kernel_rfl) rfl (by kernel_rfl) (fun _ _ _ h => h) (Or.inl ⟨by rfl, ?_⟩) (by assumption) ?_
                    rotate_left 1
                    · intro w hSw; (try dsimp only at hSw); go_simp; (with_reducible rfl)
                    (try simp only [Act.put, List.getElem_toArray, List.getElem_cons_zero, List.getElem_cons_succ, List.setIfInBounds_toArray, List.set_cons_zero, List.set_cons_succ])
                    refine wpAnyH_take1 (i := 19) (oi := _) (v := ?_) (by kernel_rfl) rfl (by kernel_rfl) (fun _ _ _ h => h) (Or.inl ⟨by rfl, ?_⟩) (by assumption) ?_
                    rotate_left 1
                    · intro w hSw; (try dsimp only at hSw); go_simp; (with_reducible rfl)
                    (try simp only [Act.put, List.getElem_toArray, List.getElem_cons_zero, List.getElem_cons_succ, List.setIfInBounds_toArray, List.set_cons_zero, List.set_cons_succ])
                    refine wpAnyH_take1 (i := 20) (oi := _) (v := ?_) (by kernel_rfl) rfl (by kernel_rfl) (fun _ _ _ h => h) (Or.inl ⟨by rfl, ?_⟩) (by assumption) ?_
                    rotate_left 1
                    · intro w hSw; (try dsimp only at hSw); go_simp; (with_reducible rfl)
                    (try simp only [Act.put, List.getElem_toArray, List.getElem_cons_zero, List.getElem_cons_succ, List.setIfInBounds_toArray, List.set_cons_zero, List.set_cons_succ])
                    refine wpAnyH_take1 (i := 21) (oi := _) (v := ?_) (by kernel_rfl) rfl (by kernel_rfl) (fun _ _ _ h => h) (Or.inl ⟨by rfl, ?_⟩) (by assumption) ?_
                    rotate_left 1
                    · intro w hSw; (try dsimp only at hSw); go_simp; (with_reducible rfl)
                    (try simp only [Act.put, List.getElem_toArray, List.getElem_cons_zero, List.getElem_cons_succ, List.setIfInBounds_toArray, List.set_cons_zero, List.set_cons_succ])
                    refine wpAnyH_take1 (i := 22) (oi := _) (v := ?_) (by kernel_rfl) rfl (by kernel_rfl) (fun _ _ _ h => h) (Or.inl ⟨by rfl, ?_⟩) (by assumption) ?_
                    rotate_left 1
                    · intro w hSw; (try dsimp only at hSw); go_simp; (with_reducible rfl)
                    (try simp only [Act.put, List.getElem_toArray, List.getElem_cons_zero, List.getElem_cons_succ, List.setIfInBounds_toArray, List.set_cons_zero, List.set_cons_succ])
                    refine wpAnyH_take1 (i := 23) (oi := _) (v := ?_) (by kernel_rfl) rfl (by kernel_rfl) (fun _ _ _ h => h) (Or.inl ⟨by rfl, ?_⟩) (by assumption) ?_
                    rotate_left 1
                    · intro w hSw; (try dsimp only at hSw); go_simp; (with_reducible rfl)
                    (try simp only [Act.put, List.getElem_toArray, List.getElem_cons_zero, List.getElem_cons_succ, List.setIfInBounds_toArray, List.set_cons_zero, List.set_cons_succ])
                    refine wpAnyH_take1 (i := 24) (oi := _) (v := ?_) (by kernel_rfl) rfl (by kernel_rfl) (fun _ _ _ h => h) (Or.inl ⟨by rfl, ?_⟩) (by assumption) ?_
                    rotate_left 1
                    · intro w hSw; (try dsimp only at hSw); go_simp; (with_reducible rfl)
                    (try simp only [Act.put, List.getElem_toArray, List.getElem_cons_zero, List.getElem_cons_succ, List.setIfInBounds_toArray, List.set_cons_zero, List.set_cons_succ])
                    refine wpAnyH_take1 (i := 25) (oi := _) (v := ?_) (by kernel_rfl) rfl (by kernel_rfl) (fun _ _ _ h => h) (Or.inl ⟨by rfl, ?_⟩) (by assumption) ?_
                    rotate_left 1
                    · intro w hSw; (try dsimp only at hSw); go_simp; (with_reducible rfl)
                    (try simp only [Act.put, List.getElem_toArray, List.getElem_cons_zero, List.getElem_cons_succ, List.setIfInBounds_toArray, List.set_cons_zero, List.set_cons_succ])
                    refine wpAnyH_take1 (i := 26) (oi := _) (v := ?_) (by kernel_rfl) rfl (by kernel_rfl) (fun _ _ _ h => h) (Or.inl ⟨by rfl, ?_⟩) (by assumption) ?_
                    rotate_left 1
                    · intro w hSw; (try dsimp only at hSw); go_simp; (with_reducible rfl)
                    (try simp only [Act.put, List.getElem_toArray, List.getElem_cons_zero, List.getElem_cons_succ, List.setIfInBounds_toArray, List.set_cons_zero, List.set_cons_succ])
                    refine wpAnyH_one (i := 27) (by kernel_rfl) rfl (by rfl) fun K hK => ?_
                    go_simp
                    refine (hspec2.out _ HY3).mono ?_
                    rintro e y4 ⟨rfl, hy4⟩
                    have HY4 : Below y3.heap.size y3 y4 := Drew.below hy4 y3.heap.size
                    (try dsimp only)
                    clear hHeld
                    refine hK.out _ _ (Kq (below_step HY4 HY3)).out fun hHeld => ?_
                    clear hK K
                    (try simp only [Act.put, List.getElem_toArray, List.getElem_cons_zero, List.getElem_cons_succ, List.setIfInBounds_toArray, List.set_cons_zero, List.set_cons_succ])
                    refine wpAnyH_take1 (i := 28) (oi := _) (v := ?_) (by kernel_rfl) rfl (by kernel_rfl) (fun _ _ _ h => h) (Or.inl ⟨by rfl, ?_⟩) (by assumption) ?_
                    rotate_left 1
                    · intro w hSw; (try dsimp only at hSw); go_simp; (with_reducible rfl)
                    (try simp only [Act.put, List.getElem_toArray, List.getElem_cons_zero, List.getElem_cons_succ, List.setIfInBounds_toArray, List.set_cons_zero, List.set_cons_succ])
                    refine wpAnyH_done (by kernel_rfl) ?_ _
                    refine NoPanic.normal ?_
                    go_wp2_with fail
                    go_ret
                    exact ⟨ret_bool hd.out.symm, below_step HY4 (below_step HY3 (below_step Z4.out hbr.out))⟩
                  | false =>
                    rw [hh] at hspec2
                    have hy' := Lib.hid (hoy.out (by rw [hao2.out, hh]; rfl))
                    clear hh
                    go_upto_region 10 with fail
                    clear c1 d0
                    (try simp only [List.append_eq, List.cons_append, List.nil_append])
                    refine wp_region_noPanic ?_
                    refine wp_region_held_drew (S := fun w' => w'.cell? ⟨b1, o1 + k * 2 + 1, none⟩ = some (.slice (some ⟨b2, o2, none⟩) t.ans.length lc) ∧ w'.cell? ⟨b2, o2 + q, none⟩ = some (.slice p2 x.length n2)) (by kernel_rfl) ?_ (fun hHeld => ?_)
                    · exact (Kq (Below.drew (Below.refl _ _))).out
                    refine wpAnyH_take1 (i := 0) (oi := _) (v := ?_) (by kernel_rfl) rfl (by kernel_rfl) (fun _ _ _ h => h) (Or.inl ⟨by rfl, ?_⟩) (by assumption) ?_
                    rotate_left 1
                    · intro w hSw; (try dsimp only at hSw); go_simp; (with_reducible rfl)
                    (try simp only [Act.put, List.getElem_toArray, List.getElem_cons_zero, List.setIfInBounds_toArray, List.set_cons_zero, List.set_cons_succ])
                    refine wpAnyH_take1 (i := 1) (oi := _) (v := ?_) (by kernel_rfl) rfl (by kernel_rfl) (fun _ _ _ h => h) (Or.inl ⟨by rfl, ?_⟩) (by assumption) ?_
                    rotate_left 1
                    · intro w hSw; (try dsimp only at hSw); go_simp; (with_reducible rfl)
                    (try simp only [Act.put, List.getElem_toArray, List.getElem_cons_zero, List.getElem_cons_succ, List.setIfInBounds_toArray, List.set_cons_zero, List.set_cons_succ])
                    refine wpAnyH_take1 (i := 2) (oi := _) (v := ?_) (by kernel_rfl) rfl (by kernel_rfl) (fun _ _ _ h => h) (Or.inl ⟨by rfl, ?_⟩) (by assumption) ?_
                    rotate_left 1
                    · intro w hSw; (try dsimp only at hSw); go_simp; (with_reducible rfl)
                    (try simp only [Act.put, List.getElem_toArray, List.getElem_cons_zero, List.getElem_cons_succ, List.setIfInBounds_toArray, List.set_cons_zero, List.set_cons_succ])
                    refine wpAnyH_take1 (i := 3) (oi := _) (v := ?_) (by kernel_rfl) rfl (by kernel_rfl) (fun _ _ _ h => h) (Or.inl ⟨by rfl, ?_⟩) (by assumption) ?_
                    rotate_left 1
                    · intro w hSw; (try dsimp only at hSw); go_simp; (with_reducible rfl)
                    (try simp only [Act.put, List.getElem_toArray, List.getElem_cons_zero, List.getElem_cons_succ, List.setIfInBounds_toArray, List.set_cons_zero, List.set_cons_succ])
                    refine wpAnyH_take1 (i := 4) (oi := _) (v := ?_) (by kernel_rfl) rfl (by kernel_rfl) (fun _ _ _ h => h) (Or.inl ⟨by rfl, ?_⟩) (by assumption) ?_
                    rotate_left 1
                    · intro w hSw; (try dsimp only at hSw); go_simp; (with_reducible rfl)
                    (try simp only [Act.put, List.getElem_toArray, List.getElem_cons_zero, List.getElem_cons_succ, List.setIfInBounds_toArray, List.set_cons_zero, List.set_cons_succ])
                    refine wpAnyH_take1 (i := 5) (oi := _) (v := ?_) (by kernel_rfl) rfl (by kernel_rfl) (fun _ _ _ h => h) (Or.inl ⟨by rfl, ?_⟩) (by assumption) ?_
                    rotate_left 1
                    · intro w hSw; (try dsimp only at hSw); go_simp; (with_reducible rfl)
                    (try simp only [Act.put, List.getElem_toArray, List.getElem_cons_zero, List.getElem_cons_succ, List.setIfInBounds_toArray, List.set_cons_zero, List.set_cons_succ])
                    refine wpAnyH_take1 (i := 6) (oi := _) (v := ?_) (by kernel_rfl) rfl (by kernel_rfl) (fun _ _ _ h => h) (Or.inl ⟨by rfl, ?_⟩) (by assumption) ?_
                    rotate_left 1
                    · intro w hSw; (try dsimp only at hSw); go_simp; (with_reducible rfl)
                    (try simp only [Act.put, List.getElem_toArray, List.getElem_cons_zero, List.getElem_cons_succ, List.setIfInBounds_toArray, List.set_cons_zero, List.set_cons_succ])
                    refine wpAnyH_take1 (i := 7) (oi := _) (v := ?_) (by kernel_rfl) rfl (by kernel_rfl) (fun _ _ _ h => h) (Or.inl ⟨by rfl, ?_⟩) (by assumption) ?_
                    rotate_left 1
                    · intro w hSw; (try dsimp only at hSw); go_simp; (with_reducible rfl)
                    (try simp only [Act.put, List.getElem_toArray, List.getElem_cons_zero, List.getElem_cons_succ, List.setIfInBounds_toArray, List.set_cons_zero, List.set_cons_succ])
                    refine wpAnyH_take1 (i := 8) (oi := _) (v := ?_) (by kernel_rfl) rfl (by kernel_rfl) (fun _ _ _ h => h) (Or.inl ⟨by rfl, ?_⟩) (by assumption) ?_
                    rotate_left 1
                    · intro w hSw; (try dsimp only at hSw); go_simp; (with_reducible rfl)
                    (try simp only [Act.put, List.getElem_toArray, List.getElem_cons_zero, List.getElem_cons_succ, List.setIfInBounds_toArray, List.set_cons_zero, List.set_cons_succ])
                    refine wpAnyH_one (i := 9) (by kernel_rfl) rfl (by rfl) fun K hK => ?_
                    go_simp
                    refine (hspec.out _ Seq.way).mono ?_
                    rintro e y3 ⟨rfl, hy3⟩
                    have HY3 := below_step hy3 (Seq.way : Below wr.heap.size wr _)
                    have zy3 := HY3.size
                    (try dsimp only)
                    clear hHeld
                    refine hK.out _ _ (Kq HY3).out fun hHeld => ?_
                    clear hK K
                    (try simp only [Act.put, List.getElem_toArray, List.getElem_cons_zero, List.getElem_cons_succ, List.setIfInBounds_toArray, List.set_cons_zero, List.set_cons_succ])
                    refine wpAnyH_take1 (i := 10) (oi := _) (v := ?_) (by kernel_rfl) rfl (by kernel_rfl) (fun _ _ _ h => h) (Or.inl ⟨by rfl, ?_⟩) (by assumption) ?_
                    rotate_left 1
                    · intro w hSw; (try dsimp only at hSw); go_simp; (with_reducible rfl)
                    (try simp only [Act.put, List.getElem_toArray, List.getElem_cons_zero, List.getElem_cons_succ, List.setIfInBounds_toArray, List.set_cons_zero, List.set_cons_succ])
                    refine wpAnyH_take1 (i := 11) (oi := _) (v := ?_) (by kernel_rfl) rfl (by kernel_rfl) (fun _ _ _ h => h) (Or.inl ⟨by rfl, ?_⟩) (by assumption) ?_
                    rotate_left 1
                    · intro w hSw; (try dsimp only at hSw); go_simp; (with_reducible rfl)
                    (try simp only [Act.put, List.getElem_toArray, List.getElem_cons_zero, List.getElem_cons_succ, List.setIfInBounds_toArray, List.set_cons_zero, List.set_cons_succ])
                    refine wpAnyH_take1 (i := 12) (oi := _) (v := ?_) (by kernel_rfl) rfl (by kernel_rfl) (fun _ _ _ h => h) (Or.inl ⟨by rfl, ?_⟩) (by assumption) ?_
                    rotate_left 1
                    · intro w hSw; (try dsimp only at hSw); go_simp; (with_reducible rfl)
                    (try simp only [Act.put, List.getElem_toArray, List.getElem_cons_zero, List.getElem_cons_succ, List.setIfInBounds_toArray, List.set_cons_zero, List.set_cons_succ])
                    refine wpAnyH_take1 (i := 13) (oi := _) (v := ?_) (by kernel_rfl) rfl (by kernel_rfl) (fun _ _ _ h => h) (Or.inl ⟨by rfl, ?_⟩) (by assumption) ?_
                    rotate_left 1
                    · intro w hSw; (try dsimp only at hSw); go_simp; (with_reducible rfl)
                    (try simp only [Act.put, List.getElem_toArray, List.getElem_cons_zero, List.getElem_cons_succ, List.setIfInBounds_toArray, List.set_cons_zero, List.set_cons_succ])
                    refine wpAnyH_take1 (i := 14) (oi := _) (v := ?_) (by kernel_rfl) rfl (by kernel_rfl) (fun _ _ _ h => h) (Or.inl ⟨by rfl, ?_⟩) (by assumption) ?_
                    rotate_left 1
                    · intro w hSw; (try dsimp only at hSw); go_simp; (with_reducible rfl)
                    (try simp only [Act.put, List.getElem_toArray, List.getElem_cons_zero, List.getElem_cons_succ, List.setIfInBounds_toArray, List.set_cons_zero, List.set_cons_succ])
                    refine wpAnyH_take1 (i := 15) (oi := _) (v := ?_) (by kernel_rfl) rfl (by kernel_rfl) (fun _ _ _ h => h) (Or.inl ⟨by rfl, ?_⟩) (by assumption) ?_
                    rotate_left 1
                    · intro w hSw; (try dsimp only at hSw); go_simp; (with_reducible rfl)
                    (try simp only [Act.put, List.getElem_toArray, List.getElem_cons_zero, List.getElem_cons_succ, List.setIfInBounds_toArray, List.set_cons_zero, List.set_cons_succ])
                    refine wpAnyH_take1 (i := 16) (oi := _) (v := ?_) (by kernel_rfl) rfl (by kernel_rfl) (fun _ _ _ h => h) (Or.inl ⟨by rfl, ?_⟩) (by assumption) ?_
                    rotate_left 1
                    · intro w hSw; (try dsimp only at hSw); go_simp; (with_reducible rfl)
                    (try simp only [Act.put, List.getElem_toArray, List.getElem_cons_zero, List.getElem_cons_succ, List.setIfInBounds_toArray, List.set_cons_zero, List.set_cons_succ])
                    refine wpAnyH_take1 (i := 17) (oi := _) (v := ?_) (by kernel_rfl) rfl (by kernel_rfl) (fun _ _ _ h => h) (Or.inl ⟨by rfl, ?_⟩) (by assumption) ?_
                    rotate_left 1
                    · intro w hSw; (try dsimp only at hSw); go_simp; (with_reducible rfl)
                    (try simp only [Act.put, List.getElem_toArray, List.getElem_cons_zero, List.getElem_cons_succ, List.setIfInBounds_toArray, List.set_cons_zero, List.set_cons_succ])
                    refine wpAnyH_take1 (i := 18) (oi := _) (v := ?_) (by kernel_rfl) rfl (by kernel_rfl) (fun _ _ _ h => h) (Or.inl ⟨by rfl, ?_⟩) (by assumption) ?_
                    rotate_left 1
                    · intro w hSw; (try dsimp only at hSw); go_simp; (with_reducible rfl)
                    (try simp only [Act.put, List.getElem_toArray, List.getElem_cons_zero, List.getElem_cons_succ, List.setIfInBounds_toArray, List.set_cons_zero, List.set_cons_succ])
                    refine wpAnyH_take1 (i := 19) (oi := _) (v := ?_) (by kernel_rfl) rfl (by kernel_rfl) (fun _ _ _ h => h) (Or.inl ⟨by rfl, ?_⟩) (by assumption) ?_
                    rotate_left 1
                    · intro w hSw; (try dsimp only at hSw); go_simp; (with_reducible rfl)
                    (try simp only [Act.put, List.getElem_toArray, List.getElem_cons_zero, List.getElem_cons_succ, List.setIfInBounds_toArray, List.set_cons_zero, List.set_cons_succ])
                    refine wpAnyH_take1 (i := 20) (oi := _) (v := ?_) (by kernel_rfl) rfl (by kernel_rfl) (fun _ _ _ h => h) (Or.inl ⟨by rfl, ?_⟩) (by assumption) ?_
                    rotate_left 1
                    · intro w hSw; (try dsimp only at hSw); go_simp; (with_reducible rfl)
                    (try simp only [Act.put, List.getElem_toArray, List.getElem_cons_zero, List.getElem_cons_succ, List.setIfInBounds_toArray, List.set_cons_zero, List.set_cons_succ])
                    refine wpAnyH_take1 (i := 21) (oi := _) (v := ?_) (by kernel_rfl) rfl (by kernel_rfl) (fun _ _ _ h => h) (Or.inl ⟨by rfl, ?_⟩) (by assumption) ?_
                    rotate_left 1
                    · intro w hSw; (try dsimp only at hSw); go_simp; (with_reducible rfl)
                    (try simp only [Act.put, List.getElem_toArray, List.getElem_cons_zero, List.getElem_cons_succ, List.setIfInBounds_toArray, List.set_cons_zero, List.set_cons_succ])
                    refine wpAnyH_take1 (i := 22) (oi := _) (v := ?_) (by kernel_rfl) rfl (by kernel_rfl) (fun _ _ _ h => h) (Or.inl ⟨by rfl, ?_⟩) (by assumption) ?_
                    rotate_left 1
                    · intro w hSw; (try dsimp only at hSw); go_simp; (with_reducible rfl)
                    (try simp only [Act.put, List.getElem_toArray, List.getElem_cons_zero, List.getElem_cons_succ, List.setIfInBounds_toArray, List.set_cons_zero, List.set_cons_succ])
                    refine wpAnyH_take1 (i := 23) (oi := _) (v := ?_) (by kernel_rfl) rfl (by kernel_rfl) (fun _ _ _ h => h) (Or.inl ⟨by rfl, ?_⟩) (by assumption) ?_
                    rotate_left 1
                    · intro w hSw; (try dsimp only at hSw); go_simp; (with_reducible rfl)
                    (try simp only [Act.put, List.getElem_toArray, List.getElem_cons_zero, List.getElem_cons_succ, List.setIfInBounds_toArray, List.set_cons_zero, List.set_cons_succ])
                    refine wpAnyH_take1 (i := 24) (oi := _) (v := ?_) (by kernel_rfl) rfl (by kernel_rfl) (fun _ _ _ h => h) (Or.inl ⟨by rfl, ?_⟩) (by assumption) ?_
                    rotate_left 1
                    · intro w hSw; (try dsimp only at hSw); go_simp; (with_reducible rfl)
                    (try simp only [Act.put, List.getElem_toArray, List.getElem_cons_zero, List.getElem_cons_succ, List.setIfInBounds_toArray, List.set_cons_zero, List.set_cons_succ])
                    refine wpAnyH_take1 (i := 25) (oi := _) (v := ?_) (by kernel_rfl) rfl (by kernel_rfl) (fun _ _ _ h => h) (Or.inl ⟨by rfl, ?_⟩) (by assumption) ?_
                    rotate_left 1
                    · intro w hSw; (try dsimp only at hSw); go_simp; (with_reducible rfl)
                    (try simp only [Act.put, List.getElem_toArray, List.getElem_cons_zero, List.getElem_cons_succ, List.setIfInBounds_toArray, List.set_cons_zero, List.set_cons_succ])
                    refine wpAnyH_take1 (i := 26) (oi := _) (v := ?_) (by kernel_rfl) rfl (by kernel_rfl) (fun _ _ _ h => h) (Or.inl ⟨by rfl, ?_⟩) (by assumption) ?_
                    rotate_left 1
                    · intro w hSw; (try dsimp only at hSw); go_simp; (with_reducible rfl)
                    (try simp only [Act.put, List.getElem_toArray, List.getElem_cons_zero, List.getElem_cons_succ, List.setIfInBounds_toArray, List.set_cons_zero, List.set_cons_succ])
                    refine wpAnyH_one (i := 27) (by kernel_rfl) rfl (by rfl) fun K hK => ?_
                    go_simp
                    refine (hspec2.out _ HY3).mono ?_
                    rintro e y4 ⟨rfl, hy4⟩
                    have HY4 : Below y3.heap.size y3 y4 := Drew.below hy4 y3.heap.size
                    (try dsimp only)
                    clear hHeld
                    refine hK.out _ _ (Kq (below_step HY4 HY3)).out fun hHeld => ?_
                    clear hK K
                    (try simp only [Act.put, List.getElem_toArray, List.getElem_cons_zero, List.getElem_cons_succ, List.setIfInBounds_toArray, List.set_cons_zero, List.set_cons_succ])
                    refine wpAnyH_take1 (i := 28) (oi := _) (v := ?_) (by kernel_rfl) rfl (by kernel_rfl) (fun _ _ _ h => h) (Or.inl ⟨by rfl, ?_⟩) (by assumption) ?_
                    rotate_left 1
                    · intro w hSw; (try dsimp only at hSw); go_simp; (with_reducible rfl)
                    (try simp only [Act.put, List.getElem_toArray, List.getElem_cons_zero, List.getElem_cons_succ, List.setIfInBounds_toArray, List.set_cons_zero, List.set_cons_succ])
                    refine wpAnyH_done (by kernel_rfl) ?_ _
                    refine NoPanic.normal ?_
                    have HF4 := Lib.hid (below_step HY4 (below_step HY3 hbz.out))
                    go_wp2_with fail
                    go_roundw
                    case rel => exact ⟨q + 1, hqt, by go_num, hy', HF4⟩
                    case measure => simp [intOf]; omega
              · have hqI : ¬ (q : Int) < (t.ans.length : Int) := by omega
                have hy' := Lib.hid (hfy.out (by rw [hat2.out]; exact allR_yes fun j hj => hqo.out j (by omega)))
                clear hqt
                go_wp2_with fail
                go_roundw
                case rel => exact ⟨k + 1, hlt, by go_num, hy', Lib.hid (below_step Z4.out hbr.out)⟩
                case measure => simp [intOf]; omega
          · have hfd' : (findTb s t.call != (k : Int)) = true := by simpa using hfd
            have hd := Lib.hid (hfn.out (by rw [hat.out, decide_eq_false hfd]; simp))
            clear hfd
            go_wp2_with fail
            go_ret
            exact ⟨ret_bool hd.out.symm, below_step Y4.out hbr.out⟩
        · rw [decide_eq_false hn]
          have hd := Lib.hid (hfn.out (by rw [hat.out, decide_eq_false hn]; simp))
          clear hn
          go_wp2_with fail
          go_ret
          exact ⟨ret_bool hd.out.symm, below_step Y3.out hbr.out⟩
    · have hkl : ¬ (k : Int) < (s.length : Int) := by omega
      have hd := Lib.hid (show rightTs s = true from allR_yes fun j hj => hno.out j (by omega))
      clear hlt
      go_wp2_with fail
      go_ret
      exact ⟨ret_bool hd.out.symm, hbr.out⟩
end
section
open Go Go.RowKit

theorem riseOK_at {s : List Tab} {i : Nat} (hi : i < s.length) : riseOK s i = ((i == 0 || decide (cmpR ((s[i - 1]?.map (·.call)).getD []) s[i].call < 0)) && (List.range s[i].ans.length).all (risOK s[i].ans)) := by
  unfold riseOK; rw [List.getElem?_eq_getElem hi]
theorem risOK_at {l : List (List Cell)} {k : Nat} (hk : k + 1 < l.length) : risOK l (k + 1) = decide (cmpR l[k] l[k + 1] < 0) := by
  unfold risOK
  rw [List.getElem?_eq_getElem hk, Nat.add_sub_cancel, List.getElem?_eq_getElem (by omega)]
  rfl
theorem risOK_zero (l : List (List Cell)) : risOK l 0 = true := by
  unfold risOK
  split <;> rfl
theorem lnkOK_at {n : Nat} {l : List (Int × Int)} {i : Nat} (hi : i < l.length) : lnkOK n l i = (decide (0 ≤ l[i].1) && decide (l[i].1 < n) && decide (0 ≤ l[i].2) && decide (l[i].2 < n) &&
      (i == 0 || !(decide (l[i].1 < (l[i - 1]?.getD (0, 0)).1) || decide ((l[i - 1]?.getD (0, 0)).1 = l[i].1) && decide (l[i].2 ≤ (l[i - 1]?.getD (0, 0)).2)))) := by
  unfold lnkOK; rw [List.getElem?_eq_getElem hi]
theorem mayB_1 {r : Res} (h : rightTs r.tabs = false) : mayB r = false := by unfold mayB; rw [h]; rfl
theorem mayB_2 {r : Res} {k : Nat} (hk : k < r.tabs.length) (h : riseOK r.tabs k = false) : mayB r = false := by
  unfold mayB; rw [allR_no hk h]; simp
theorem mayB_3 {r : Res} {k : Nat} (hk : k < r.lks.length) (h : lnkOK r.tabs.length r.lks k = false) : mayB r = false := by
  unfold mayB; rw [allR_no hk h]; simp

set_option maxHeartbeats 12800000 in
set_option maxRecDepth 100000 in
theorem MayR23_spec {S : Nat → Prop} {w : World} {v : Value} {r : Res} (hr : ResV S w v r) (hfew : fewB r.tabs = true) (hln : r.lks.length ≤ 200) :
    Calls Try.prog 18 #[v] w (RetV (.bool (mayB r)) w) := by
  have HF := Lib.hid hfew
  have hll : r.tabs.length ≤ 30 := (fewB_at hfew).1
  obtain ⟨ta, tc, ia, il, ic, la, lc, rfl, hT, hE⟩ := hr
  obtain ⟨W, hW⟩ : ∃ W, W = w.alloc (.cells #[.slice ta r.tabs.length tc, .slice ia il ic, .slice la r.lks.length lc] 26) := ⟨_, rfl⟩
  have HBW := Lib.hid (show Below w.heap.size w W by rw [hW]; exact Seq.way)
  have HT := Lib.hid (hT.any.at HBW.out)
  have HE := Lib.hid (hE.any.at HBW.out)
  have HW := Lib.hid hW
  obtain ⟨bt, hbt⟩ : ∃ b, b = w.heap.size := ⟨_, rfl⟩
  have Hbt := Lib.hid hbt
  have HR := Lib.hid (show RowA 26 W bt [.slice ta r.tabs.length tc, .slice ia il ic, .slice la r.lks.length lc] by rw [hW, hbt]; exact Row.new w [_, _, _] _ rfl)
  have Kr := fun {W' : World} (h : Below W.heap.size W W') => Lib.hid (show W'.cell? ⟨bt, 0, none⟩ = some (.slice ta r.tabs.length tc) ∧ W'.cell? ⟨bt, 1, none⟩ = some (.slice ia il ic) ∧ W'.cell? ⟨bt, 2, none⟩ = some (.slice la r.lks.length lc) ∧ bt < W'.heap.size from
    ⟨(HR.out.at h).row.cell (j := 0) (by simp), (HR.out.at h).row.cell (j := 1) (by simp), (HR.out.at h).row.cell (j := 2) (by simp), (HR.out.at h).row.lt⟩)
  clear hT hE hW hbt
  clear hfew
  go_enter Try.func18, Try.ntmps18
  go_upto_region 1 with fail
  rw [← HW.out, ← Hbt.out]
  obtain ⟨r0, r1, r2, rl⟩ := (Kr (Below.refl _ W)).out
  go_wp2_with fail
  refine (RightR14_spec HT.out HF.out).mono ?_
  rintro e w1 ⟨rfl, hb1⟩
  have B1 := Lib.hid hb1
  clear hb1 r0 r1 r2 rl
  obtain ⟨r0, r1, r2, rl⟩ := (Kr B1.out).out
  cases hrt : rightTs r.tabs with
  | false =>
    have hd := Lib.hid (mayB_1 hrt)
    clear hrt
    go_wp2_with fail
    go_ret
    exact ⟨ret_bool hd.out.symm, below_step B1.out HBW.out⟩
  | true =>
    have Hrt := Lib.hid hrt
    clear hrt
    go_wp2_with fail
    go_loopw [3] (fun i wr => ∃ k : Nat, k ≤ r.tabs.length ∧ i = .int .i64 k ∧ Hid (∀ j, j < k → riseOK r.tabs j = true) ∧ Hid (Below W.heap.size W wr)) (fun i _ => r.tabs.length - (intOf i).toNat)
    case atStart => exact ⟨0, Nat.zero_le _, rfl, Lib.hid (fun i h => absurd h (Nat.not_lt_zero _)), B1⟩
    case round =>
      obtain ⟨k, hk, rfl, hno, hbr⟩ := hrel
      clear r0 r1 r2 rl
      obtain ⟨r0, r1, r2, rl⟩ := (Kr hbr.out).out
      by_cases hlt : k < r.tabs.length
      · obtain ⟨_, _, ee, -, -, -, -, x5⟩ := HT.out.at hbr.out
        simp only [Value.slice.injEq, true_and] at ee
        obtain ⟨rfl, rfl⟩ := ee
        obtain ⟨b1, o1, ca, cc, la2, lc2, rfl, -, l1, c0, c1, hC, hA⟩ := x5.tab hlt
        have X5 := Lib.hid x5
        have hfn := Lib.hid (show riseOK r.tabs k = false → mayB r = false from fun h => mayB_2 hlt h)
        have hfy := Lib.hid (show riseOK r.tabs k = true → ∀ i, i < k + 1 → riseOK r.tabs i = true from fun h i hi => by
          by_cases e : i = k
          · subst e; exact h
          · exact hno.out i (by omega))
        have hat := Lib.hid (riseOK_at hlt)
        have HC := Lib.hid hC
        have HA := Lib.hid hA
        have hal : r.tabs[k].ans.length ≤ 30 := ((fewB_at HF.out).2 _ (List.getElem_mem hlt)).2.1
        obtain ⟨t, ht⟩ : ∃ t, t = r.tabs[k] := ⟨_, rfl⟩
        rw [← ht] at c0 c1 HA HC hat hal
        clear ht x5 hA hC
        have hkl : (k : Int) < (r.tabs.length : Int) := by omega
        have hk0 : (0 : Int) ≤ (k : Int) := by omega
        have hkey : ∀ (b : Bool), b = (k == 0 || decide (cmpR ((r.tabs[k - 1]?.map (·.call)).getD []) t.call < 0)) → Hid (riseOK r.tabs k = (b && (List.range t.ans.length).all (risOK t.ans))) := fun b hb => Lib.hid (by rw [hat.out, hb])
        clear hat
        rcases Nat.eq_zero_or_pos k with hz | hz
        · have hkey2 := hkey true (by rw [hz]; rfl)
          have hz1 : ((0 : Int) < (k : Int)) = False := eq_false (by omega)
          have hz2 : ((k : Int) > 0) = False := eq_false (by omega)
          have hz3 : (0 < k) = False := eq_false (by omega)
          clear hkey hz
          go_upto_region 7 with fail
          go_quiet (fail)
          have HQ0 := Lib.hid (show Below wr.heap.size wr (wr.drewN nq) from below_drewN (Below.refl _ _) nq)
          obtain ⟨z1, hz1⟩ : ∃ z, z = wr.drewN nq := ⟨_, rfl⟩
          rw [← hz1] at HQ0 ⊢
          have HQ := Lib.hid HQ0.out
          clear hz1 HQ0 r0 r1 r2 rl c0 c1
          have TQ := Lib.hid (HA.out.at HQ.out)
          have Hat2 := Lib.hid (show riseOK r.tabs k = (List.range t.ans.length).all (risOK t.ans) by rw [hkey2.out]; rfl)
          have HB1 := Lib.hid (below_step HQ.out hbr.out)
          clear hkey2
          go_wp2_with fail
          go_loopw [5] (fun i wz => ∃ u : Nat, (u = 0 ∨ u < t.ans.length) ∧ i = .int .i64 (u + 1 : Nat) ∧ Hid (∀ j, j < u + 1 → risOK t.ans j = true) ∧ Hid (Below z1.heap.size z1 wz)) (fun i _ => t.ans.length - (intOf i).toNat)
          case atStart => exact ⟨0, .inl rfl, rfl, Lib.hid (fun j hj => (show j = 0 by omega) ▸ risOK_zero _), Lib.hid (Below.refl _ _)⟩
          case round =>
            obtain ⟨u, hu, rfl, huo, hbu⟩ := hrel
            have hu30 : u ≤ 30 := by omega
            by_cases hut : u + 1 < t.ans.length
            · obtain ⟨_, _, ee, -, -, -, -, y5⟩ := TQ.out.at hbu.out
              simp only [Value.slice.injEq, true_and] at ee
              obtain ⟨rfl, rfl⟩ := ee
              obtain ⟨b2, o2, p2, n2, rfl, -, -, d0, hX⟩ := y5.seq (k := u) (by omega)
              obtain ⟨_, _, p3, n3, ee, -, -, d1, hY⟩ := y5.seq (k := u + 1) hut
              simp only [Option.some.injEq, Addr.mk.injEq, and_true] at ee
              obtain ⟨rfl, rfl⟩ := ee
              have HX := Lib.hid hX
              have HY := Lib.hid hY
              have hro := Lib.hid (risOK_at hut)
              have hrn := Lib.hid (show risOK t.ans (u + 1) = false → mayB r = false from fun h => hfn.out (by rw [Hat2.out]; exact allR_no hut h))
              have hry := Lib.hid (show risOK t.ans (u + 1) = true → ∀ j, j < u + 1 + 1 → risOK t.ans j = true from fun h j hj => by
                by_cases e : j = u + 1
                · subst e; exact h
                · exact huo.out j (by omega))
              obtain ⟨x, hx⟩ : ∃ x, x = t.ans[u]'(by omega) := ⟨_, rfl⟩
              obtain ⟨y, hy⟩ : ∃ x, x = t.ans[u + 1] := ⟨_, rfl⟩
              rw [← hx] at d0 HX hro
              rw [← hy] at d1 HY hro
              have hu0 : (0 : Int) ≤ (u : Int) := by omega
              have hu1 : (0 : Int) ≤ (u : Int) + 1 := by omega
              have hu2 : (u : Int) + 1 < (t.ans.length : Int) := by omega
              have hu3 : (u : Int) < (t.ans.length : Int) := by omega
              have hu5 : (u : Int) + 1 - 1 = (u : Int) := by omega
              have huw : IntKind.i64.wrap (u : Int) = (u : Int) := by rw [IntKind.wrap_i64]; omega
              clear hx hy hX hY y5
              go_wp2_with fail
              go_still_tail 9, (by kernel_rfl)
              go_wp2_with fail
              refine (CompareR_spec (HX.out.at Seq.way) (HY.out.at Seq.way)).mono ?_
              rintro e z2 ⟨rfl, hz2⟩
              have HU := Lib.hid (below_step (below_step hz2 (Seq.way : Below wr.heap.size wr _)) hbu.out)
              clear hz2
              by_cases hcn : cmpR x y < 0
              · have hcn1 : (cmpR x y ≥ 0) = False := eq_false (by omega)
                have hcn2 : (0 ≤ cmpR x y) = False := eq_false (by omega)
                have hry2 := Lib.hid (hry.out (by rw [hro.out]; exact decide_eq_true hcn))
                clear hcn
                go_wp2_with fail
                go_roundw
                case rel => exact ⟨u + 1, .inr hut, by go_num, hry2, HU⟩
                case measure => simp [intOf]; omega
              · have hcn2 : (0 : Int) ≤ cmpR x y := by omega
                have hd := Lib.hid (hrn.out (by rw [hro.out]; exact decide_eq_false hcn))
                clear hcn
                go_wp2_with fail
                go_ret
                exact ⟨ret_bool hd.out.symm, below_step (below_step HU.out HB1.out) HBW.out⟩
            · have hu2 : ¬ (u : Int) + 1 < (t.ans.length : Int) := by omega
              have hry2 := Lib.hid (hfy.out (by rw [Hat2.out]; exact allR_yes fun j hj => huo.out j (by omega)))
              clear hut
              go_wp2_with fail
              go_roundw
              case rel => exact ⟨k + 1, hlt, by go_num, hry2, Lib.hid (below_step hbu.out HB1.out)⟩
              case measure => simp [intOf]; omega
        · obtain ⟨q, rfl⟩ : ∃ q, k = q + 1 := ⟨k - 1, by omega⟩
          clear hz
          obtain ⟨_, _, ca3, cc3, la3, lc3, ee, -, -, c2, c3, hC3, -⟩ := X5.out.tab (k := q) (by omega)
          simp only [Option.some.injEq, Addr.mk.injEq, and_true] at ee
          obtain ⟨rfl, rfl⟩ := ee
          have HC3 := Lib.hid hC3
          have hpv : ((r.tabs[q + 1 - 1]?.map (·.call)).getD []) = (r.tabs[q]'(by omega)).call := by
            rw [Nat.add_sub_cancel, List.getElem?_eq_getElem (by omega)]; rfl
          rw [hpv] at hkey
          obtain ⟨p, hp⟩ : ∃ p, p = (r.tabs[q]'(by omega)).call := ⟨_, rfl⟩
          rw [← hp] at c2 HC3 hkey
          have hq0 : (0 : Int) ≤ (q : Int) := by omega
          have hq1 : (0 : Int) ≤ (q : Int) + 1 := by omega
          have hq2 : (q : Int) + 1 < (r.tabs.length : Int) := by omega
          have hq3 : (q : Int) < (r.tabs.length : Int) := by omega
          have hq4 : (0 : Int) < (q : Int) + 1 := by omega
          have hq5 : (q : Int) + 1 - 1 = (q : Int) := by omega
          have hqw : IntKind.i64.wrap (q : Int) = (q : Int) := by rw [IntKind.wrap_i64]; omega
          clear hp hC3 hpv c3
          go_upto_region 7 with fail
          go_still_tail 16, (by kernel_rfl)
          go_wp2_with fail
          refine (CompareR_spec (HC3.out.at Seq.way) (HC.out.at Seq.way)).mono ?_
          rintro e z1 ⟨rfl, hz1⟩
          have HQ := Lib.hid (below_step hz1 (Seq.way : Below wr.heap.size wr _))
          clear hz1
          by_cases hcm : cmpR p t.call < 0
          · have hcm1 : (cmpR p t.call ≥ 0) = False := eq_false (by omega)
            have hcm2 : (0 ≤ cmpR p t.call) = False := eq_false (by omega)
            have hkey2 := hkey true (by rw [decide_eq_true hcm]; simp)
            clear hkey hcm c0 c1 c2 r0 r1 r2 rl
            have TQ := Lib.hid (HA.out.at HQ.out)
            have Hat2 := Lib.hid (show riseOK r.tabs (q + 1) = (List.range t.ans.length).all (risOK t.ans) by rw [hkey2.out]; rfl)
            have HB1 := Lib.hid (below_step HQ.out hbr.out)
            clear hkey2
            go_wp2_with fail
            go_loopw [5] (fun i wz => ∃ u : Nat, (u = 0 ∨ u < t.ans.length) ∧ i = .int .i64 (u + 1 : Nat) ∧ Hid (∀ j, j < u + 1 → risOK t.ans j = true) ∧ Hid (Below z1.heap.size z1 wz)) (fun i _ => t.ans.length - (intOf i).toNat)
            case atStart => exact ⟨0, .inl rfl, rfl, Lib.hid (fun j hj => (show j = 0 by omega) ▸ risOK_zero _), Lib.hid (Below.refl _ _)⟩
            case round =>
              obtain ⟨u, hu, rfl, huo, hbu⟩ := hrel
              have hu30 : u ≤ 30 := by omega
              by_cases hut : u + 1 < t.ans.length
              · obtain ⟨_, _, ee, -, -, -, -, y5⟩ := TQ.out.at hbu.out
                simp only [Value.slice.injEq, true_and] at ee
                obtain ⟨rfl, rfl⟩ := ee
                obtain ⟨b2, o2, p2, n2, rfl, -, -, d0, hX⟩ := y5.seq (k := u) (by omega)
                obtain ⟨_, _, p3, n3, ee, -, -, d1, hY⟩ := y5.seq (k := u + 1) hut
                simp only [Option.some.injEq, Addr.mk.injEq, and_true] at ee
                obtain ⟨rfl, rfl⟩ := ee
                have HX := Lib.hid hX
                have HY := Lib.hid hY
                have hro := Lib.hid (risOK_at hut)
                have hrn := Lib.hid (show risOK t.ans (u + 1) = false → mayB r = false from fun h => hfn.out (by rw [Hat2.out]; exact allR_no hut h))
                have hry := Lib.hid (show risOK t.ans (u + 1) = true → ∀ j, j < u + 1 + 1 → risOK t.ans j = true from fun h j hj => by
                  by_cases e : j = u + 1
                  · subst e; exact h
                  · exact huo.out j (by omega))
                obtain ⟨x, hx⟩ : ∃ x, x = t.ans[u]'(by omega) := ⟨_, rfl⟩
                obtain ⟨y, hy⟩ : ∃ x, x = t.ans[u + 1] := ⟨_, rfl⟩
                rw [← hx] at d0 HX hro
                rw [← hy] at d1 HY hro
                have hu0 : (0 : Int) ≤ (u : Int) := by omega
                have hu1 : (0 : Int) ≤ (u : Int) + 1 := by omega
                have hu2 : (u : Int) + 1 < (t.ans.length : Int) := by omega
                have hu3 : (u : Int) < (t.ans.length : Int) := by omega
                have hu5 : (u : Int) + 1 - 1 = (u : Int) := by omega
                have huw : IntKind.i64.wrap (u : Int) = (u : Int) := by rw [IntKind.wrap_i64]; omega
                clear hx hy hX hY y5
                go_wp2_with fail
                go_still_tail 9, (by kernel_rfl)
                go_wp2_with fail
                refine (CompareR_spec (HX.out.at Seq.way) (HY.out.at Seq.way)).mono ?_
                rintro e z2 ⟨rfl, hz2⟩
                have HU := Lib.hid (below_step (below_step hz2 (Seq.way : Below wr.heap.size wr _)) hbu.out)
                clear hz2
                by_cases hcn : cmpR x y < 0
                · have hcn1 : (cmpR x y ≥ 0) = False := eq_false (by omega)
                  have hcn2 : (0 ≤ cmpR x y) = False := eq_false (by omega)
                  have hry2 := Lib.hid (hry.out (by rw [hro.out]; exact decide_eq_true hcn))
                  clear hcn
                  go_wp2_with fail
                  go_roundw
                  case rel => exact ⟨u + 1, .inr hut, by go_num, hry2, HU⟩
                  case measure => simp [intOf]; omega
                · have hcn2 : (0 : Int) ≤ cmpR x y := by omega
                  have hd := Lib.hid (hrn.out (by rw [hro.out]; exact decide_eq_false hcn))
                  clear hcn
                  go_wp2_with fail
                  go_ret
                  exact ⟨ret_bool hd.out.symm, below_step (below_step HU.out HB1.out) HBW.out⟩
              · have hu2 : ¬ (u : Int) + 1 < (t.ans.length : Int) := by omega
                have hry2 := Lib.hid (hfy.out (by rw [Hat2.out]; exact allR_yes fun j hj => huo.out j (by omega)))
                clear hut
                go_wp2_with fail
                go_roundw
                case rel => exact ⟨q + 2, hlt, by go_num, hry2, Lib.hid (below_step hbu.out HB1.out)⟩
                case measure => simp [intOf]; omega
          · have hcm2 : (0 : Int) ≤ cmpR p t.call := by omega
            have hd := Lib.hid (hfn.out (by rw [(hkey false (by rw [decide_eq_false hcm]; simp)).out]; rfl))
            clear hkey hcm
            go_wp2_with fail
            go_ret
            exact ⟨ret_bool hd.out.symm, below_step (below_step HQ.out hbr.out) HBW.out⟩
      · have hkl : ¬ (k : Int) < (r.tabs.length : Int) := by omega
        have hris := Lib.hid (show (List.range r.tabs.length).all (riseOK r.tabs) = true from allR_yes fun j hj => hno.out j (by omega))
        clear hlt hno
        go_wp2_with fail
        go_loopw [6] (fun i wz => ∃ q : Nat, q ≤ r.lks.length ∧ i = .int .i64 q ∧ Hid (∀ j, j < q → lnkOK r.tabs.length r.lks j = true) ∧ Hid (Below W.heap.size W wz)) (fun i _ => r.lks.length - (intOf i).toNat)
        case atStart => exact ⟨0, Nat.zero_le _, rfl, Lib.hid (fun i h => absurd h (Nat.not_lt_zero _)), hbr⟩
        case round =>
          obtain ⟨q, hq, rfl, hqo, hbz⟩ := hrel
          clear r0 r1 r2 rl
          obtain ⟨r0, r1, r2, rl⟩ := (Kr hbz.out).out
          by_cases hqt : q < r.lks.length
          · obtain ⟨_, _, ee, -, -, -, -, x5⟩ := HE.out.at hbz.out
            simp only [Value.slice.injEq, true_and] at ee
            obtain ⟨rfl, rfl⟩ := ee
            obtain ⟨b1, o1, rfl, -, l1, c0, c1, ok0, ok1⟩ := x5.edg hqt
            have X5 := Lib.hid x5
            have hfn := Lib.hid (show lnkOK r.tabs.length r.lks q = false → mayB r = false from fun h => mayB_3 hqt h)
            have hfy := Lib.hid (show lnkOK r.tabs.length r.lks q = true → ∀ i, i < q + 1 → lnkOK r.tabs.length r.lks i = true from fun h i hi => by
              by_cases e : i = q
              · subst e; exact h
              · exact hqo.out i (by omega))
            have hat := Lib.hid (lnkOK_at (n := r.tabs.length) hqt)
            obtain ⟨e1, he1⟩ : ∃ e, e = r.lks[q].1 := ⟨_, rfl⟩
            obtain ⟨e2, he2⟩ : ∃ e, e = r.lks[q].2 := ⟨_, rfl⟩
            rw [← he1] at c0 hat ok0
            rw [← he2] at c1 hat ok1
            have hqI : (q : Int) < (r.lks.length : Int) := by omega
            have hq0 : (0 : Int) ≤ (q : Int) := by omega
            clear he1 he2 x5
            have hB := HBW.out
            rcases (show e1 < 0 ∨ (0 ≤ e1 ∧ (r.tabs.length : Int) ≤ e1) ∨ (0 ≤ e1 ∧ e1 < (r.tabs.length : Int) ∧ e2 < 0) ∨ (0 ≤ e1 ∧ e1 < (r.tabs.length : Int) ∧ 0 ≤ e2 ∧ (r.tabs.length : Int) ≤ e2) ∨ (0 ≤ e1 ∧ e1 < (r.tabs.length : Int) ∧ 0 ≤ e2 ∧ e2 < (r.tabs.length : Int)) by omega) with h | ⟨h0, h⟩ | ⟨h0, h1, h⟩ | ⟨h0, h1, h2, h⟩ | ⟨h0, h1, h2, h3⟩
            · have hd := Lib.hid (hfn.out (by rw [hat.out, decide_eq_false (show ¬ 0 ≤ e1 by omega)]; rfl))
              go_wp2_with fail
              go_ret
              exact ⟨ret_bool hd.out.symm, below_step Seq.way (below_step hbz.out HBW.out)⟩
            · have hd := Lib.hid (hfn.out (by rw [hat.out, decide_eq_false (show ¬ e1 < (r.tabs.length : Int) by omega)]; simp))
              have g0 : (e1 < 0) = False := eq_false (by omega)
              go_wp2_with fail
              go_ret
              exact ⟨ret_bool hd.out.symm, below_step Seq.way (below_step hbz.out HBW.out)⟩
            · have hd := Lib.hid (hfn.out (by rw [hat.out, decide_eq_false (show ¬ 0 ≤ e2 by omega)]; simp))
              have g0 : (e1 < 0) = False := eq_false (by omega)
              have g1 : ((r.tabs.length : Int) ≤ e1) = False := eq_false (by omega)
              go_wp2_with fail
              go_ret
              exact ⟨ret_bool hd.out.symm, below_step Seq.way (below_step hbz.out HBW.out)⟩
            · have hd := Lib.hid (hfn.out (by rw [hat.out, decide_eq_false (show ¬ e2 < (r.tabs.length : Int) by omega)]; simp))
              have g0 : (e1 < 0) = False := eq_false (by omega)
              have g1 : ((r.tabs.length : Int) ≤ e1) = False := eq_false (by omega)
              have g2 : (e2 < 0) = False := eq_false (by omega)
              go_wp2_with fail
              go_ret
              exact ⟨ret_bool hd.out.symm, below_step Seq.way (below_step hbz.out HBW.out)⟩
            · have hat2 := Lib.hid (show ∀ b : Bool, b = (q == 0 || !(decide (e1 < (r.lks[q - 1]?.getD (0, 0)).1) || decide ((r.lks[q - 1]?.getD (0, 0)).1 = e1) && decide (e2 ≤ (r.lks[q - 1]?.getD (0, 0)).2))) → lnkOK r.tabs.length r.lks q = b from fun b hb => by
                rw [hat.out, decide_eq_true h0, decide_eq_true h1, decide_eq_true h2, decide_eq_true h3, hb]; rfl)
              have g0 : (e1 < 0) = False := eq_false (by omega)
              have g1 : ((r.tabs.length : Int) ≤ e1) = False := eq_false (by omega)
              have g2 : (e2 < 0) = False := eq_false (by omega)
              have g3 : ((r.tabs.length : Int) ≤ e2) = False := eq_false (by omega)
              clear hat
              go_upto_region 20 with fail
              obtain ⟨Z, hZ⟩ : ∃ Z, Z = wr.alloc (.cells #[.int .i64 e1, .int .i64 e2] 35) := ⟨_, rfl⟩
              have HRZ := Lib.hid (show RowA 35 Z wr.heap.size [.int .i64 e1, .int .i64 e2] by rw [hZ]; exact Row.new wr [_, _] _ rfl)
              have HZ := Lib.hid (show Below wr.heap.size wr Z by rw [hZ]; exact Seq.way)
              rw [← hZ]
              obtain ⟨g, hg⟩ : ∃ g, g = wr.heap.size := ⟨_, rfl⟩
              rw [← hg] at HRZ ⊢
              have HBZ := Lib.hid (below_step HZ.out hbz.out)
              have z0 : Z.cell? ⟨g, 0, none⟩ = some (.int .i64 e1) := HRZ.out.row.cell (j := 0) (by simp)
              have z1 : Z.cell? ⟨g, 1, none⟩ = some (.int .i64 e2) := HRZ.out.row.cell (j := 1) (by simp)
              clear hZ hg c0 c1 r0 r1 r2 rl
              obtain ⟨r0, r1, r2, rl⟩ := (Kr HBZ.out).out
              rcases q with _ | u
              · have hy := Lib.hid (hfy.out (hat2.out true rfl))
                clear hat2
                go_quiet (fail)
                go_wp2_with fail
                go_roundw
                case rel => exact ⟨1, hqt, by go_num, hy, Lib.hid (below_drewN HBZ.out nq)⟩
                case measure => simp [intOf]; omega
              · obtain ⟨_, _, ee, -, l2, c2, c3, -, -⟩ := X5.out.edg (k := u) (by omega)
                simp only [Option.some.injEq, Addr.mk.injEq, and_true] at ee
                obtain ⟨rfl, rfl⟩ := ee
                have hpv : (r.lks[u + 1 - 1]?.getD (0, 0)) = (r.lks[u]'(by omega)) := by
                  rw [Nat.add_sub_cancel, List.getElem?_eq_getElem (by omega)]; rfl
                rw [hpv] at hat2
                replace c2 : Z.cell? ⟨b1, o1 + u * 2, none⟩ = _ := (HZ.out.cell (p := ⟨b1, o1 + u * 2, none⟩) l2).trans c2
                replace c3 : Z.cell? ⟨b1, o1 + u * 2 + 1, none⟩ = _ := (HZ.out.cell (p := ⟨b1, o1 + u * 2 + 1, none⟩) l2).trans c3
                obtain ⟨p1, hp1⟩ : ∃ p, p = (r.lks[u]'(by omega)).1 := ⟨_, rfl⟩
                obtain ⟨p2, hp2⟩ : ∃ p, p = (r.lks[u]'(by omega)).2 := ⟨_, rfl⟩
                rw [← hp1] at c2 hat2
                rw [← hp2] at c3 hat2
                have hu1 : (0 : Int) ≤ (u : Int) + 1 := by omega
                have hu0 : (0 : Int) ≤ (u : Int) := by omega
                have hu2 : (u : Int) + 1 < (r.lks.length : Int) := by omega
                have hu3 : (u : Int) < (r.lks.length : Int) := by omega
                have hu4 : (0 : Int) < (u : Int) + 1 := by omega
                have hu5 : (u : Int) + 1 - 1 = (u : Int) := by omega
                have huw : IntKind.i64.wrap (u : Int) = (u : Int) := by rw [IntKind.wrap_i64]; omega
                clear hp1 hp2 hpv
                rcases (show e1 < p1 ∨ (p1 = e1 ∧ e2 ≤ p2) ∨ (p1 = e1 ∧ p2 < e2) ∨ p1 < e1 by omega) with h | ⟨h, h'⟩ | ⟨h, h'⟩ | h
                · have hd := Lib.hid (hfn.out (hat2.out false (by rw [decide_eq_true h]; rfl)))
                  have k1 : p1 > e1 := by omega
                  clear hat2
                  go_quiet (fail)
                  go_wp2_with fail
                  go_ret
                  exact ⟨ret_bool hd.out.symm, below_step (below_drewN HBZ.out nq) HBW.out⟩
                · have hd := Lib.hid (hfn.out (hat2.out false (by rw [decide_eq_true h, decide_eq_true h']; simp)))
                  have k1 : (e1 < p1) = False := eq_false (by omega)
                  have k2 : (p1 > e1) = False := eq_false (by omega)
                  have k3 : (p1 == e1) = true := by simpa using h
                  have k4 : p2 ≥ e2 := by omega
                  clear hat2 h
                  go_quiet (fail)
                  go_wp2_with fail
                  go_ret
                  exact ⟨ret_bool hd.out.symm, below_step (below_drewN HBZ.out nq) HBW.out⟩
                · have hy := Lib.hid (hfy.out (hat2.out true (by rw [decide_eq_true h, decide_eq_false (show ¬ e2 ≤ p2 by omega), decide_eq_false (show ¬ e1 < p1 by omega)]; simp)))
                  have k1 : (e1 < p1) = False := eq_false (by omega)
                  have k2 : (p1 > e1) = False := eq_false (by omega)
                  have k3 : (p1 == e1) = true := by simpa using h
                  have k4 : (p2 ≥ e2) = False := eq_false (by omega)
                  have k5 : (e2 ≤ p2) = False := eq_false (by omega)
                  clear hat2 h
                  go_quiet (fail)
                  go_wp2_with fail
                  go_roundw
                  case rel => exact ⟨u + 2, hqt, by go_num, hy, Lib.hid (below_drewN HBZ.out nq)⟩
                  case measure => simp [intOf]; omega
                · have hy := Lib.hid (hfy.out (hat2.out true (by rw [decide_eq_false (show ¬ p1 = e1 by omega), decide_eq_false (show ¬ e1 < p1 by omega)]; simp)))
                  have k1 : (e1 < p1) = False := eq_false (by omega)
                  have k2 : (p1 > e1) = False := eq_false (by omega)
                  have k3 : (p1 == e1) = false := beq_eq_false_iff_ne.2 (by omega)
                  clear hat2
                  go_quiet (fail)
                  go_wp2_with fail
                  go_roundw
                  case rel => exact ⟨u + 2, hqt, by go_num, hy, Lib.hid (below_drewN HBZ.out nq)⟩
                  case measure => simp [intOf]; omega
          · have hqI : ¬ (q : Int) < (r.lks.length : Int) := by omega
            have hd := Lib.hid (show mayB r = true by
              unfold mayB
              rw [Hrt.out, hris.out]
              exact allR_yes fun j hj => hqo.out j (by omega))
            clear hqt
            go_wp2_with fail
            go_ret
            exact ⟨ret_bool hd.out.symm, below_step hbz.out HBW.out⟩
end
end Go.Proofs.Ytbcambjonjhopaa
