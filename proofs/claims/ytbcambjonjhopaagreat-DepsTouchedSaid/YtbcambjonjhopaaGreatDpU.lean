/-
  Layer 23's laws: what holds of what is asked; the walk of DepsTells.
-/
import Derived.Test.YtbcambjonjhopaaGreatDpT
import Derived.Test.YtbcambjonjhopaaGreatTmM
namespace Go.Proofs.YtbcambjonjhopaaGreat
open Go Go.RowKit

theorem insT_sub {t : List Cell} : ∀ {l : List (List Cell)} {x : List Cell}, x ∈ insT t l → x ∈ l ∨ x = t
  | [], x, h => by unfold insT at h; simp at h; exact .inr h
  | a :: l, x, h => by
    unfold insT at h
    split at h
    · rcases List.mem_cons.1 h with h | h
      · exact .inr h
      · exact .inl h
    · rcases List.mem_cons.1 h with h | h
      · exact .inl (by rw [h]; exact List.mem_cons_self ..)
      · rcases insT_sub h with h | h
        · exact .inl (List.mem_cons_of_mem _ h)
        · exact .inr h
theorem insT_len (t : List Cell) : ∀ l : List (List Cell), (insT t l).length ≤ l.length + 1
  | [] => by unfold insT; simp
  | a :: l => by
    unfold insT
    split
    · simp
    · have := insT_len t l; simp; omega
theorem addO_sub {l : List (List Cell)} {t x : List Cell} (h : x ∈ addO l t) : x ∈ l ∨ (x = t ∧ factT t = true) := by
  unfold addO at h
  split at h
  case isTrue hf =>
    split at h
    · exact .inl h
    · split at h
      · cases h
      · rcases insT_sub h with h | h
        · exact .inl h
        · exact .inr ⟨h, hf⟩
  case isFalse => cases h
theorem addO_len (l : List (List Cell)) (t : List Cell) : (addO l t).length ≤ l.length + 1 := by
  unfold addO
  split
  · split
    · omega
    · split
      · simp
      · exact insT_len t l
  · simp
theorem rowM_fact (l : List (List Cell)) : ∀ k, k ≤ l.length → (∀ t ∈ rowM l k, factT t = true) ∧ (rowM l k).length ≤ k := by
  intro k
  induction k with
  | zero => intro _; exact ⟨fun t h => by simp [rowM] at h, by simp [rowM]⟩
  | succ k ih =>
    intro hk
    obtain ⟨h1, h2⟩ := ih (by omega)
    rw [rowM_succ (by omega)]
    refine ⟨fun t ht => ?_, ?_⟩
    · rcases addO_sub ht with h | ⟨rfl, h⟩
      · exact h1 t h
      · exact h
    · have := addO_len (rowM l k) (factM l[k])
      omega
theorem rowF_chg (l : List (List Cell)) : ChgOK (rowF l 20) := by
  unfold rowF
  obtain ⟨h1, h2⟩ := rowM_fact l (min l.length (min 20 512)) (by omega)
  exact ⟨by omega, fun t ht => (factT_parts (h1 t ht)).1⟩
theorem rowF_len20 (l : List (List Cell)) : (rowF l 20).length ≤ 20 := by
  unfold rowF
  obtain ⟨h1, h2⟩ := rowM_fact l (min l.length (min 20 512)) (by omega)
  omega
theorem ret_quiet {f : Nat} {args : Array Value} {w : World} {b : Bool} (h : Calls Tryz.prog f args w (QuietV (.bool b) w)) (hb : b = true) : Calls Tryz.prog f args w (RetV (.bool true) w) := h.mono fun _ _ ⟨h1, h2⟩ => ⟨by rw [h1, hb], h2.belowS⟩
/-- What is so where a result is not too great. -/
structure AskR (r : Res) : Prop where
  ok : ResOK r
  rt : ∀ t ∈ r.tabs, RightT t.call
  len : r.tabs.length ≤ 30
theorem ask_of {r : Res} (h : greatB r = false) : AskR r := by
  have hg := great_good h
  exact ⟨⟨by have := hg.len; omega, by have := hg.lkn; omega, fun t ht => by have := (hg.call t ht).2.1; omega, hg.rng⟩, fun t ht => (hg.call t ht).1, hg.len⟩

set_option maxHeartbeats 12800000 in
set_option maxRecDepth 100000 in
theorem tells_spec {S T S1 : Nat → Prop} {w : World} {v u x : Value} {r now : Res} {l : List (List Cell)} (hr : ResV S w v r) (hn : ResV T w u now) (hl : Seq (seqE cellE) S1 w x l) :
    Calls Tryz.prog 3 #[v, u, x] w (RetV (.bool true) w) := by
  obtain ⟨ta, tc, ia, il, ic, la, lc, rfl, hT, hE⟩ := hr
  obtain ⟨na, nc, ja, jl, jc, ma, mc, rfl, hN, hM⟩ := hn
  obtain ⟨W1, hW1⟩ : ∃ W, W = w.alloc (.cells #[.slice ta r.tabs.length tc, .slice ia il ic, .slice la r.lks.length lc] 26) := ⟨_, rfl⟩
  have HBW1 := Lib.hid (show Below w.heap.size w W1 by rw [hW1]; exact Seq.way)
  have HW1 := Lib.hid hW1
  have hsW1 : W1.heap.size = w.heap.size + 1 := by rw [hW1]; simp
  obtain ⟨b1t, hb1t⟩ : ∃ b, b = w.heap.size := ⟨_, rfl⟩
  have Hb1t := Lib.hid hb1t
  have HRW1 := Lib.hid (show RowA 26 W1 b1t [.slice ta r.tabs.length tc, .slice ia il ic, .slice la r.lks.length lc] by rw [hW1, show b1t = w.heap.size by omega]; exact Row.new w [_, _, _] _ rfl)
  have K1 := fun {W' : World} (h : Below W1.heap.size W1 W') => Lib.hid (show W'.cell? ⟨b1t, 0, none⟩ = some (.slice ta r.tabs.length tc) ∧ W'.cell? ⟨b1t, 1, none⟩ = some (.slice ia il ic) ∧ W'.cell? ⟨b1t, 2, none⟩ = some (.slice la r.lks.length lc) ∧ b1t < W'.heap.size from
    ⟨(HRW1.out.at h).row.cell (j := 0) (by simp), (HRW1.out.at h).row.cell (j := 1) (by simp), (HRW1.out.at h).row.cell (j := 2) (by simp), (HRW1.out.at h).row.lt⟩)
  obtain ⟨W, hW⟩ : ∃ W, W = W1.alloc (.cells #[.slice na now.tabs.length nc, .slice ja jl jc, .slice ma now.lks.length mc] 26) := ⟨_, rfl⟩
  have HBW := Lib.hid (show Below W1.heap.size W1 W by rw [hW]; exact Seq.way)
  have HW := Lib.hid hW
  have hsW : W.heap.size = W1.heap.size + 1 := by rw [hW]; simp
  obtain ⟨bt, hbt⟩ : ∃ b, b = w.heap.size + 1 := ⟨_, rfl⟩
  have Hbt := Lib.hid hbt
  have HRW := Lib.hid (show RowA 26 W bt [.slice na now.tabs.length nc, .slice ja jl jc, .slice ma now.lks.length mc] by rw [hW, show bt = W1.heap.size by omega]; exact Row.new W1 [_, _, _] _ rfl)
  have Kn := fun {W' : World} (h : Below W.heap.size W W') => Lib.hid (show W'.cell? ⟨bt, 0, none⟩ = some (.slice na now.tabs.length nc) ∧ W'.cell? ⟨bt, 1, none⟩ = some (.slice ja jl jc) ∧ W'.cell? ⟨bt, 2, none⟩ = some (.slice ma now.lks.length mc) ∧ bt < W'.heap.size from
    ⟨(HRW.out.at h).row.cell (j := 0) (by simp), (HRW.out.at h).row.cell (j := 1) (by simp), (HRW.out.at h).row.cell (j := 2) (by simp), (HRW.out.at h).row.lt⟩)
  have HBw := Lib.hid (below_step HBW.out HBW1.out)
  have HR := Lib.hid (show ResV (fun _ => True) W (.agg #[.slice ta r.tabs.length tc, .slice ia il ic, .slice la r.lks.length lc]) r from ResV.mk (hT.any.at HBw.out) (hE.any.at HBw.out))
  have HN := Lib.hid (show ResV (fun _ => True) W (.agg #[.slice na now.tabs.length nc, .slice ja jl jc, .slice ma now.lks.length mc]) now from ResV.mk (hN.any.at HBw.out) (hM.any.at HBw.out))
  have HL := Lib.hid (hl.at HBw.out)
  obtain ⟨xa, xc, rfl⟩ := hl.shape
  clear hT hE hN hM hl hW1 hW hb1t hbt hsW1 hsW
  have Kt := fun {W' : World} (h : Below W.heap.size W W') => K1 (below_step h HBW.out)
  go_enter Tryz.func3, Tryz.ntmps3
  go_upto_region 1 with fail
  rw [← HW1.out, ← HW.out, ← Hbt.out, ← Hb1t.out]
  go_wp2_with fail
  refine head_spec.mono ?_
  rintro e w1 ⟨rfl, hb1⟩
  have B1 := Lib.hid hb1
  clear hb1
  obtain ⟨n0, n1, n2, nl⟩ := (Kn B1.out).out
  obtain ⟨r0, r1, r2, rl⟩ := (Kt B1.out).out
  go_wp2_with fail
  refine (great_spec (HR.out.at B1.out)).mono ?_
  rintro e w2 ⟨rfl, hb2⟩
  have B2 := Lib.hid (below_step hb2 B1.out)
  clear hb2 n0 n1 n2 nl r0 r1 r2 rl
  obtain ⟨n0, n1, n2, nl⟩ := (Kn B2.out).out
  obtain ⟨r0, r1, r2, rl⟩ := (Kt B2.out).out
  cases hg : greatB r with
  | true =>
    clear hg
    go_wp2_with fail
    go_ret
    exact ⟨rfl, below_step B2.out HBw.out⟩
  | false =>
    have A := Lib.hid (ask_of hg)
    clear hg
    go_wp2_with fail
    refine (great_spec (HN.out.at B2.out)).mono ?_
    rintro e w3 ⟨rfl, hb3⟩
    have B3 := Lib.hid (below_step hb3 B2.out)
    clear hb3 n0 n1 n2 nl r0 r1 r2 rl
    cases hg : greatB now with
    | true =>
      clear hg
      go_wp2_with fail
      go_ret
      exact ⟨rfl, below_step B3.out HBw.out⟩
    | false =>
      clear hg
      by_cases hll : 30 < l.length
      · have hl2 : (30 : Int) < (l.length : Int) := by omega
        have hl3 : (l.length : Int) > 30 := by omega
        go_wp2_with fail
        go_ret
        exact ⟨rfl, below_step B3.out HBw.out⟩
      · have hl2 : ((30 : Int) < (l.length : Int)) = False := eq_false (by omega)
        have hl3 : ((l.length : Int) > 30) = False := eq_false (by omega)
        have hl4 : (30 < l.length) = False := eq_false (by omega)
        clear hll
        go_wp2_with fail
        refine (RowR_spec (most := 20) (HL.out.at B3.out) (by omega)).mono ?_
        rintro e w4 ⟨v4, rfl, hb4, hs4⟩
        have hok := Lib.hid (rowF_chg l)
        obtain ⟨c, hc⟩ : ∃ c, c = rowF l 20 := ⟨_, rfl⟩
        rw [← hc] at hs4 hok
        obtain ⟨ya, yc, rfl⟩ := hs4.shape
        have HC := Lib.hid hs4.any
        have B4 := Lib.hid (below_step hb4 B3.out)
        clear hc hs4 hb4 hl2 hl3 hl4
        have h1 := Lib.hid (fun (W' : World) (h : Below w4.heap.size w4 W') => TouchedP_spec (w := W') (HR.out.at (below_step h B4.out)) (HC.out.at h) A.out.ok.tl A.out.rt hok.out)
        have h2 := Lib.hid (fun (W' : World) (h : Below w4.heap.size w4 W') => TouchedR_spec (w := W') (HR.out.at (below_step h B4.out)) (HC.out.at h) A.out.ok.tl A.out.ok.cl hok.out)
        have h3 := Lib.hid (fun (W' : World) (h : Below w4.heap.size w4 W') => DirtyP_spec (w := W') (HR.out.at (below_step h B4.out)) (HC.out.at h) A.out.ok A.out.rt hok.out)
        have h4 := Lib.hid (fun (W' : World) (h : Below w4.heap.size w4 W') => DirtyR_spec (w := W') (HR.out.at (below_step h B4.out)) (HC.out.at h) A.out.ok hok.out)
        have h5 := Lib.hid (fun (W' : World) (h : Below w4.heap.size w4 W') => CompsP_spec (w := W') (HR.out.at (below_step h B4.out)) A.out.ok)
        have h6 := Lib.hid (fun (W' : World) (h : Below w4.heap.size w4 W') => CompsR23_spec (w := W') (HR.out.at (below_step h B4.out)) A.out.ok)
        have h7 := Lib.hid (fun (W' : World) (h : Below w4.heap.size w4 W') => AgainP_spec (w := W') (HR.out.at (below_step h B4.out)) (HN.out.at (below_step h B4.out)) (HC.out.at h) A.out.ok A.out.rt hok.out)
        have h8 := Lib.hid (fun (W' : World) (h : Below w4.heap.size w4 W') => AgainR_spec (w := W') (HR.out.at (below_step h B4.out)) (HN.out.at (below_step h B4.out)) (HC.out.at h) A.out.ok hok.out)
        obtain ⟨q1, hq1⟩ : ∃ q, q = natsZ (touchL r c) := ⟨_, rfl⟩
        obtain ⟨q2, hq2⟩ : ∃ q, q = natsZ (dirtyL r c) := ⟨_, rfl⟩
        obtain ⟨q3, hq3⟩ : ∃ q, q = (cmpsL r).map natsZ := ⟨_, rfl⟩
        obtain ⟨q4, hq4⟩ : ∃ q, q = natsZ (againL r now c) := ⟨_, rfl⟩
        rw [← hq1] at h1 h2
        rw [← hq2] at h3 h4
        rw [← hq3] at h5 h6
        rw [← hq4] at h7 h8
        clear hq1 hq2 hq3 hq4
        have Kq := fun {W' : World} (h : Below w4.heap.size w4 W') => Lib.hid (show W'.cell? ⟨b1t, 0, none⟩ = some (.slice ta r.tabs.length tc) ∧ W'.cell? ⟨b1t, 1, none⟩ = some (.slice ia il ic) ∧ W'.cell? ⟨b1t, 2, none⟩ = some (.slice la r.lks.length lc) ∧ W'.cell? ⟨bt, 0, none⟩ = some (.slice na now.tabs.length nc) ∧ W'.cell? ⟨bt, 1, none⟩ = some (.slice ja jl jc) ∧ W'.cell? ⟨bt, 2, none⟩ = some (.slice ma now.lks.length mc) from
          ⟨((Kt (below_step h B4.out)).out).1, ((Kt (below_step h B4.out)).out).2.1, ((Kt (below_step h B4.out)).out).2.2.1, ((Kn (below_step h B4.out)).out).1, ((Kn (below_step h B4.out)).out).2.1, ((Kn (below_step h B4.out)).out).2.2.1⟩)
        go_upto_region 5 with fail
        (try simp only [List.append_eq, List.cons_append, List.nil_append])
        refine wp_region_noPanic ?_
        refine wp_region_held_drew (S := fun w' => w'.cell? ⟨b1t, 0, none⟩ = some (.slice ta r.tabs.length tc) ∧ w'.cell? ⟨b1t, 1, none⟩ = some (.slice ia il ic) ∧ w'.cell? ⟨b1t, 2, none⟩ = some (.slice la r.lks.length lc) ∧ w'.cell? ⟨bt, 0, none⟩ = some (.slice na now.tabs.length nc) ∧ w'.cell? ⟨bt, 1, none⟩ = some (.slice ja jl jc) ∧ w'.cell? ⟨bt, 2, none⟩ = some (.slice ma now.lks.length mc)) (by kernel_rfl) ?_ (fun hHeld => ?_)
        · exact (Kq (Below.drew (Below.refl _ _))).out
        refine wpAnyH_take1 (i := 0) (oi := _) (v := ?_) (by kernel_rfl) rfl (by kernel_rfl) (fun _ _ _ h => h) (Or.inl ⟨by rfl, ?_⟩) (by assumption) ?_
        rotate_left 1
        · intro w hSw; (try dsimp only at hSw); go_simp; (with_reducible rfl)
        (try simp only [Act.put, List.getElem_toArray, List.getElem_cons_zero, List.setIfInBounds_toArray, List.set_cons_zero, List.set_cons_succ])
        refine wpAnyH_take1 (i := 1) (oi := _) (v := ?_) (by kernel_rfl) rfl (by kernel_rfl) (fun _ _ _ h => h) (Or.inl ⟨by rfl, ?_⟩) (by assumption) ?_
        rotate_left 1
        · intro w hSw; (try dsimp only at hSw); go_simp; (with_reducible rfl)
        (try simp only [Act.put, List.getElem_toArray, List.getElem_cons_zero, List.getElem_cons_succ, List.setIfInBounds_toArray, List.set_cons_zero, List.set_cons_succ])
        refine wpAnyH_take1 (i := 2) (oi := _) (v := ?_) (by kernel_rfl) rfl (by kernel_rfl) (fun _ _ _ h => h) (Or.inl ⟨by rfl, ?_⟩) (by assumption) ?_
        rotate_left 1
        · intro w hSw; (try dsimp only at hSw); go_simp; (with_reducible rfl)
        (try simp only [Act.put, List.getElem_toArray, List.getElem_cons_zero, List.getElem_cons_succ, List.setIfInBounds_toArray, List.set_cons_zero, List.set_cons_succ])
        refine wpAnyH_take1 (i := 3) (oi := _) (v := ?_) (by kernel_rfl) rfl (by kernel_rfl) (fun _ _ _ h => h) (Or.inl ⟨by rfl, ?_⟩) (by assumption) ?_
        rotate_left 1
        · intro w hSw; (try dsimp only at hSw); go_simp; (with_reducible rfl)
        (try simp only [Act.put, List.getElem_toArray, List.getElem_cons_zero, List.getElem_cons_succ, List.setIfInBounds_toArray, List.set_cons_zero, List.set_cons_succ])
        refine wpAnyH_take1 (i := 5) (oi := _) (v := ?_) (by kernel_rfl) rfl (by kernel_rfl) (fun _ _ _ h => h) (Or.inl ⟨by rfl, ?_⟩) (by assumption) ?_
        rotate_left 1
        · intro w hSw; (try dsimp only at hSw); go_simp; (with_reducible rfl)
        (try simp only [Act.put, List.getElem_toArray, List.getElem_cons_zero, List.getElem_cons_succ, List.setIfInBounds_toArray, List.set_cons_zero, List.set_cons_succ])
        refine wpAnyH_take1 (i := 6) (oi := _) (v := ?_) (by kernel_rfl) rfl (by kernel_rfl) (fun _ _ _ h => h) (Or.inl ⟨by rfl, ?_⟩) (by assumption) ?_
        rotate_left 1
        · intro w hSw; (try dsimp only at hSw); go_simp; (with_reducible rfl)
        (try simp only [Act.put, List.getElem_toArray, List.getElem_cons_zero, List.getElem_cons_succ, List.setIfInBounds_toArray, List.set_cons_zero, List.set_cons_succ])
        refine wpAnyH_one (i := 4) (by kernel_rfl) rfl (by rfl) fun K hK => ?_
        go_simp
        refine (h1.out _ Seq.way).mono ?_
        rintro e y1 ⟨v1, rfl, hy1, hs1⟩
        have HY1 := below_step hy1 (Seq.way : Below w4.heap.size w4 _)
        have zy1 := HY1.size
        (try dsimp only)
        clear hHeld
        refine hK.out _ _ (Kq HY1).out fun hHeld => ?_
        clear hK K
        (try simp only [Act.put, List.getElem_toArray, List.getElem_cons_zero, List.getElem_cons_succ, List.setIfInBounds_toArray, List.set_cons_zero, List.set_cons_succ])
        have HS1 := Lib.hid hs1.any
        obtain ⟨a1, c1, rfl⟩ := hs1.shape
        clear hs1
        refine wpAnyH_one (i := 7) (by kernel_rfl) rfl (by rfl) fun K hK => ?_
        go_simp
        refine (h2.out _ Seq.way).mono ?_
        rintro e y2 ⟨v2, rfl, hy2, hs2⟩
        have HY2 := below_step hy2 (Seq.way : Below w4.heap.size w4 _)
        have zy2 := HY2.size
        (try dsimp only)
        clear hHeld
        refine hK.out _ _ (Kq HY2).out fun hHeld => ?_
        clear hK K
        (try simp only [Act.put, List.getElem_toArray, List.getElem_cons_zero, List.getElem_cons_succ, List.setIfInBounds_toArray, List.set_cons_zero, List.set_cons_succ])
        have HS2 := Lib.hid hs2.any
        obtain ⟨a2, c2, rfl⟩ := hs2.shape
        clear hs2
        refine wpAnyH_one (i := 8) (by kernel_rfl) rfl (by rfl) fun K hK => ?_
        go_simp
        refine (ret_quiet (IntsR14_spec (HS1.out.at Seq.way) (HS2.out.at Seq.way)) (decide_eq_true rfl)).mono ?_
        rintro e y3 ⟨rfl, hy3⟩
        have HY3 := below_step hy3 (Seq.way : Below w4.heap.size w4 _)
        have zy3 := HY3.size
        (try dsimp only)
        clear hHeld
        refine hK.out _ _ (Kq HY3).out fun hHeld => ?_
        clear hK K
        (try simp only [Act.put, List.getElem_toArray, List.getElem_cons_zero, List.getElem_cons_succ, List.setIfInBounds_toArray, List.set_cons_zero, List.set_cons_succ])
        refine wpAnyH_take1 (i := 9) (oi := _) (v := ?_) (by kernel_rfl) rfl (by kernel_rfl) (fun _ _ _ h => h) (Or.inl ⟨by rfl, ?_⟩) (by assumption) ?_
        rotate_left 1
        · intro w hSw; (try dsimp only at hSw); go_simp; (with_reducible rfl)
        (try simp only [Act.put, List.getElem_toArray, List.getElem_cons_zero, List.getElem_cons_succ, List.setIfInBounds_toArray, List.set_cons_zero, List.set_cons_succ])
        refine wpAnyH_take1 (i := 10) (oi := _) (v := ?_) (by kernel_rfl) rfl (by kernel_rfl) (fun _ _ _ h => h) (Or.inl ⟨by rfl, ?_⟩) (by assumption) ?_
        rotate_left 1
        · intro w hSw; (try dsimp only at hSw); go_simp; (with_reducible rfl)
        (try simp only [Act.put, List.getElem_toArray, List.getElem_cons_zero, List.getElem_cons_succ, List.setIfInBounds_toArray, List.set_cons_zero, List.set_cons_succ])
        refine wpAnyH_take1 (i := 11) (oi := _) (v := ?_) (by kernel_rfl) rfl (by kernel_rfl) (fun _ _ _ h => h) (Or.inl ⟨by rfl, ?_⟩) (by assumption) ?_
        rotate_left 1
        · intro w hSw; (try dsimp only at hSw); go_simp; (with_reducible rfl)
        (try simp only [Act.put, List.getElem_toArray, List.getElem_cons_zero, List.getElem_cons_succ, List.setIfInBounds_toArray, List.set_cons_zero, List.set_cons_succ])
        refine wpAnyH_take1 (i := 12) (oi := _) (v := ?_) (by kernel_rfl) rfl (by kernel_rfl) (fun _ _ _ h => h) (Or.inl ⟨by rfl, ?_⟩) (by assumption) ?_
        rotate_left 1
        · intro w hSw; (try dsimp only at hSw); go_simp; (with_reducible rfl)
        (try simp only [Act.put, List.getElem_toArray, List.getElem_cons_zero, List.getElem_cons_succ, List.setIfInBounds_toArray, List.set_cons_zero, List.set_cons_succ])
        refine wpAnyH_take1 (i := 14) (oi := _) (v := ?_) (by kernel_rfl) rfl (by kernel_rfl) (fun _ _ _ h => h) (Or.inl ⟨by rfl, ?_⟩) (by assumption) ?_
        rotate_left 1
        · intro w hSw; (try dsimp only at hSw); go_simp; (with_reducible rfl)
        (try simp only [Act.put, List.getElem_toArray, List.getElem_cons_zero, List.getElem_cons_succ, List.setIfInBounds_toArray, List.set_cons_zero, List.set_cons_succ])
        refine wpAnyH_take1 (i := 15) (oi := _) (v := ?_) (by kernel_rfl) rfl (by kernel_rfl) (fun _ _ _ h => h) (Or.inl ⟨by rfl, ?_⟩) (by assumption) ?_
        rotate_left 1
        · intro w hSw; (try dsimp only at hSw); go_simp; (with_reducible rfl)
        (try simp only [Act.put, List.getElem_toArray, List.getElem_cons_zero, List.getElem_cons_succ, List.setIfInBounds_toArray, List.set_cons_zero, List.set_cons_succ])
        refine wpAnyH_one (i := 13) (by kernel_rfl) rfl (by rfl) fun K hK => ?_
        go_simp
        refine (h3.out _ Seq.way).mono ?_
        rintro e y4 ⟨v4, rfl, hy4, hs4⟩
        have HY4 := below_step hy4 (Seq.way : Below w4.heap.size w4 _)
        have zy4 := HY4.size
        (try dsimp only)
        clear hHeld
        refine hK.out _ _ (Kq HY4).out fun hHeld => ?_
        clear hK K
        (try simp only [Act.put, List.getElem_toArray, List.getElem_cons_zero, List.getElem_cons_succ, List.setIfInBounds_toArray, List.set_cons_zero, List.set_cons_succ])
        have HS4 := Lib.hid hs4.any
        obtain ⟨a4, c4, rfl⟩ := hs4.shape
        clear hs4
        refine wpAnyH_one (i := 16) (by kernel_rfl) rfl (by rfl) fun K hK => ?_
        go_simp
        refine (h4.out _ Seq.way).mono ?_
        rintro e y5 ⟨v5, rfl, hy5, hs5⟩
        have HY5 := below_step hy5 (Seq.way : Below w4.heap.size w4 _)
        have zy5 := HY5.size
        (try dsimp only)
        clear hHeld
        refine hK.out _ _ (Kq HY5).out fun hHeld => ?_
        clear hK K
        (try simp only [Act.put, List.getElem_toArray, List.getElem_cons_zero, List.getElem_cons_succ, List.setIfInBounds_toArray, List.set_cons_zero, List.set_cons_succ])
        have HS5 := Lib.hid hs5.any
        obtain ⟨a5, c5, rfl⟩ := hs5.shape
        clear hs5
        refine wpAnyH_one (i := 17) (by kernel_rfl) rfl (by rfl) fun K hK => ?_
        go_simp
        refine (ret_quiet (IntsR14_spec (HS4.out.at Seq.way) (HS5.out.at Seq.way)) (decide_eq_true rfl)).mono ?_
        rintro e y6 ⟨rfl, hy6⟩
        have HY6 := below_step hy6 (Seq.way : Below w4.heap.size w4 _)
        have zy6 := HY6.size
        (try dsimp only)
        clear hHeld
        refine hK.out _ _ (Kq HY6).out fun hHeld => ?_
        clear hK K
        (try simp only [Act.put, List.getElem_toArray, List.getElem_cons_zero, List.getElem_cons_succ, List.setIfInBounds_toArray, List.set_cons_zero, List.set_cons_succ])
        refine wpAnyH_take1 (i := 18) (oi := _) (v := ?_) (by kernel_rfl) rfl (by kernel_rfl) (fun _ _ _ h => h) (Or.inl ⟨by rfl, ?_⟩) (by assumption) ?_
        rotate_left 1
        · intro w hSw; (try dsimp only at hSw); go_simp; (with_reducible rfl)
        (try simp only [Act.put, List.getElem_toArray, List.getElem_cons_zero, List.getElem_cons_succ, List.setIfInBounds_toArray, List.set_cons_zero, List.set_cons_succ])
        refine wpAnyH_take1 (i := 19) (oi := _) (v := ?_) (by kernel_rfl) rfl (by kernel_rfl) (fun _ _ _ h => h) (Or.inl ⟨by rfl, ?_⟩) (by assumption) ?_
        rotate_left 1
        · intro w hSw; (try dsimp only at hSw); go_simp; (with_reducible rfl)
        (try simp only [Act.put, List.getElem_toArray, List.getElem_cons_zero, List.getElem_cons_succ, List.setIfInBounds_toArray, List.set_cons_zero, List.set_cons_succ])
        refine wpAnyH_take1 (i := 20) (oi := _) (v := ?_) (by kernel_rfl) rfl (by kernel_rfl) (fun _ _ _ h => h) (Or.inl ⟨by rfl, ?_⟩) (by assumption) ?_
        rotate_left 1
        · intro w hSw; (try dsimp only at hSw); go_simp; (with_reducible rfl)
        (try simp only [Act.put, List.getElem_toArray, List.getElem_cons_zero, List.getElem_cons_succ, List.setIfInBounds_toArray, List.set_cons_zero, List.set_cons_succ])
        refine wpAnyH_take1 (i := 22) (oi := _) (v := ?_) (by kernel_rfl) rfl (by kernel_rfl) (fun _ _ _ h => h) (Or.inl ⟨by rfl, ?_⟩) (by assumption) ?_
        rotate_left 1
        · intro w hSw; (try dsimp only at hSw); go_simp; (with_reducible rfl)
        (try simp only [Act.put, List.getElem_toArray, List.getElem_cons_zero, List.getElem_cons_succ, List.setIfInBounds_toArray, List.set_cons_zero, List.set_cons_succ])
        refine wpAnyH_one (i := 21) (by kernel_rfl) rfl (by rfl) fun K hK => ?_
        go_simp
        refine (h5.out _ Seq.way).mono ?_
        rintro e y7 ⟨v7, rfl, hy7, hs7⟩
        have HY7 := below_step hy7 (Seq.way : Below w4.heap.size w4 _)
        have zy7 := HY7.size
        (try dsimp only)
        clear hHeld
        refine hK.out _ _ (Kq HY7).out fun hHeld => ?_
        clear hK K
        (try simp only [Act.put, List.getElem_toArray, List.getElem_cons_zero, List.getElem_cons_succ, List.setIfInBounds_toArray, List.set_cons_zero, List.set_cons_succ])
        have HS7 := Lib.hid hs7.any
        obtain ⟨a7, c7, rfl⟩ := hs7.shape
        clear hs7
        refine wpAnyH_one (i := 23) (by kernel_rfl) rfl (by rfl) fun K hK => ?_
        go_simp
        refine (h6.out _ Seq.way).mono ?_
        rintro e y8 ⟨v8, rfl, hy8, hs8⟩
        have HY8 := below_step hy8 (Seq.way : Below w4.heap.size w4 _)
        have zy8 := HY8.size
        (try dsimp only)
        clear hHeld
        refine hK.out _ _ (Kq HY8).out fun hHeld => ?_
        clear hK K
        (try simp only [Act.put, List.getElem_toArray, List.getElem_cons_zero, List.getElem_cons_succ, List.setIfInBounds_toArray, List.set_cons_zero, List.set_cons_succ])
        have HS8 := Lib.hid hs8.any
        obtain ⟨a8, c8, rfl⟩ := hs8.shape
        clear hs8
        refine wpAnyH_one (i := 24) (by kernel_rfl) rfl (by rfl) fun K hK => ?_
        go_simp
        refine (ret_quiet (SameR23_spec (HS7.out.at Seq.way) (HS8.out.at Seq.way)) (decide_eq_true rfl)).mono ?_
        rintro e y9 ⟨rfl, hy9⟩
        have HY9 := below_step hy9 (Seq.way : Below w4.heap.size w4 _)
        have zy9 := HY9.size
        (try dsimp only)
        clear hHeld
        refine hK.out _ _ (Kq HY9).out fun hHeld => ?_
        clear hK K
        (try simp only [Act.put, List.getElem_toArray, List.getElem_cons_zero, List.getElem_cons_succ, List.setIfInBounds_toArray, List.set_cons_zero, List.set_cons_succ])
        refine wpAnyH_take1 (i := 25) (oi := _) (v := ?_) (by kernel_rfl) rfl (by kernel_rfl) (fun _ _ _ h => h) (Or.inl ⟨by rfl, ?_⟩) (by assumption) ?_
        rotate_left 1
        · intro w hSw; (try dsimp only at hSw); go_simp; (with_reducible rfl)
        (try simp only [Act.put, List.getElem_toArray, List.getElem_cons_zero, List.getElem_cons_succ, List.setIfInBounds_toArray, List.set_cons_zero, List.set_cons_succ])
        refine wpAnyH_take1 (i := 26) (oi := _) (v := ?_) (by kernel_rfl) rfl (by kernel_rfl) (fun _ _ _ h => h) (Or.inl ⟨by rfl, ?_⟩) (by assumption) ?_
        rotate_left 1
        · intro w hSw; (try dsimp only at hSw); go_simp; (with_reducible rfl)
        (try simp only [Act.put, List.getElem_toArray, List.getElem_cons_zero, List.getElem_cons_succ, List.setIfInBounds_toArray, List.set_cons_zero, List.set_cons_succ])
        refine wpAnyH_take1 (i := 27) (oi := _) (v := ?_) (by kernel_rfl) rfl (by kernel_rfl) (fun _ _ _ h => h) (Or.inl ⟨by rfl, ?_⟩) (by assumption) ?_
        rotate_left 1
        · intro w hSw; (try dsimp only at hSw); go_simp; (with_reducible rfl)
        (try simp only [Act.put, List.getElem_toArray, List.getElem_cons_zero, List.getElem_cons_succ, List.setIfInBounds_toArray, List.set_cons_zero, List.set_cons_succ])
        refine wpAnyH_take1 (i := 28) (oi := _) (v := ?_) (by kernel_rfl) rfl (by kernel_rfl) (fun _ _ _ h => h) (Or.inl ⟨by rfl, ?_⟩) (by assumption) ?_
        rotate_left 1
        · intro w hSw; (try dsimp only at hSw); go_simp; (with_reducible rfl)
        (try simp only [Act.put, List.getElem_toArray, List.getElem_cons_zero, List.getElem_cons_succ, List.setIfInBounds_toArray, List.set_cons_zero, List.set_cons_succ])
        refine wpAnyH_take1 (i := 29) (oi := _) (v := ?_) (by kernel_rfl) rfl (by kernel_rfl) (fun _ _ _ h => h) (Or.inl ⟨by rfl, ?_⟩) (by assumption) ?_
        rotate_left 1
        · intro w hSw; (try dsimp only at hSw); go_simp; (with_reducible rfl)
        (try simp only [Act.put, List.getElem_toArray, List.getElem_cons_zero, List.getElem_cons_succ, List.setIfInBounds_toArray, List.set_cons_zero, List.set_cons_succ])
        refine wpAnyH_take1 (i := 31) (oi := _) (v := ?_) (by kernel_rfl) rfl (by kernel_rfl) (fun _ _ _ h => h) (Or.inl ⟨by rfl, ?_⟩) (by assumption) ?_
        rotate_left 1
        · intro w hSw; (try dsimp only at hSw); go_simp; (with_reducible rfl)
        (try simp only [Act.put, List.getElem_toArray, List.getElem_cons_zero, List.getElem_cons_succ, List.setIfInBounds_toArray, List.set_cons_zero, List.set_cons_succ])
        refine wpAnyH_take1 (i := 32) (oi := _) (v := ?_) (by kernel_rfl) rfl (by kernel_rfl) (fun _ _ _ h => h) (Or.inl ⟨by rfl, ?_⟩) (by assumption) ?_
        rotate_left 1
        · intro w hSw; (try dsimp only at hSw); go_simp; (with_reducible rfl)
        (try simp only [Act.put, List.getElem_toArray, List.getElem_cons_zero, List.getElem_cons_succ, List.setIfInBounds_toArray, List.set_cons_zero, List.set_cons_succ])
        refine wpAnyH_take1 (i := 33) (oi := _) (v := ?_) (by kernel_rfl) rfl (by kernel_rfl) (fun _ _ _ h => h) (Or.inl ⟨by rfl, ?_⟩) (by assumption) ?_
        rotate_left 1
        · intro w hSw; (try dsimp only at hSw); go_simp; (with_reducible rfl)
        (try simp only [Act.put, List.getElem_toArray, List.getElem_cons_zero, List.getElem_cons_succ, List.setIfInBounds_toArray, List.set_cons_zero, List.set_cons_succ])
        refine wpAnyH_one (i := 30) (by kernel_rfl) rfl (by rfl) fun K hK => ?_
        go_simp
        refine (h7.out _ Seq.way).mono ?_
        rintro e y10 ⟨v10, rfl, hy10, hs10⟩
        have HY10 := below_step hy10 (Seq.way : Below w4.heap.size w4 _)
        have zy10 := HY10.size
        (try dsimp only)
        clear hHeld
        refine hK.out _ _ (Kq HY10).out fun hHeld => ?_
        clear hK K
        (try simp only [Act.put, List.getElem_toArray, List.getElem_cons_zero, List.getElem_cons_succ, List.setIfInBounds_toArray, List.set_cons_zero, List.set_cons_succ])
        have HS10 := Lib.hid hs10.any
        obtain ⟨a10, c10, rfl⟩ := hs10.shape
        clear hs10
        refine wpAnyH_one (i := 34) (by kernel_rfl) rfl (by rfl) fun K hK => ?_
        go_simp
        refine (h8.out _ Seq.way).mono ?_
        rintro e y11 ⟨v11, rfl, hy11, hs11⟩
        have HY11 := below_step hy11 (Seq.way : Below w4.heap.size w4 _)
        have zy11 := HY11.size
        (try dsimp only)
        clear hHeld
        refine hK.out _ _ (Kq HY11).out fun hHeld => ?_
        clear hK K
        (try simp only [Act.put, List.getElem_toArray, List.getElem_cons_zero, List.getElem_cons_succ, List.setIfInBounds_toArray, List.set_cons_zero, List.set_cons_succ])
        have HS11 := Lib.hid hs11.any
        obtain ⟨a11, c11, rfl⟩ := hs11.shape
        clear hs11
        refine wpAnyH_one (i := 35) (by kernel_rfl) rfl (by rfl) fun K hK => ?_
        go_simp
        refine (ret_quiet (IntsR14_spec (HS10.out.at Seq.way) (HS11.out.at Seq.way)) (decide_eq_true rfl)).mono ?_
        rintro e y12 ⟨rfl, hy12⟩
        have HY12 := below_step hy12 (Seq.way : Below w4.heap.size w4 _)
        have zy12 := HY12.size
        (try dsimp only)
        clear hHeld
        refine hK.out _ _ (Kq HY12).out fun hHeld => ?_
        clear hK K
        (try simp only [Act.put, List.getElem_toArray, List.getElem_cons_zero, List.getElem_cons_succ, List.setIfInBounds_toArray, List.set_cons_zero, List.set_cons_succ])
        refine wpAnyH_take1 (i := 36) (oi := _) (v := ?_) (by kernel_rfl) rfl (by kernel_rfl) (fun _ _ _ h => h) (Or.inl ⟨by rfl, ?_⟩) (by assumption) ?_
        rotate_left 1
        · intro w hSw; (try dsimp only at hSw); go_simp; (with_reducible rfl)
        (try simp only [Act.put, List.getElem_toArray, List.getElem_cons_zero, List.getElem_cons_succ, List.setIfInBounds_toArray, List.set_cons_zero, List.set_cons_succ])
        refine wpAnyH_take1 (i := 37) (oi := _) (v := ?_) (by kernel_rfl) rfl (by kernel_rfl) (fun _ _ _ h => h) (Or.inl ⟨by rfl, ?_⟩) (by assumption) ?_
        rotate_left 1
        · intro w hSw; (try dsimp only at hSw); go_simp; (with_reducible rfl)
        (try simp only [Act.put, List.getElem_toArray, List.getElem_cons_zero, List.getElem_cons_succ, List.setIfInBounds_toArray, List.set_cons_zero, List.set_cons_succ])
        refine wpAnyH_done (by kernel_rfl) ?_ _
        refine NoPanic.normal ?_
        have HF := Lib.hid (below_step (below_step HY12 B4.out) HBw.out)
        go_wp2_with fail
        go_ret
        exact ⟨rfl, HF.out⟩
end Go.Proofs.YtbcambjonjhopaaGreat
