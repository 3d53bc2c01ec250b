/-
  Layer 23's laws: the walk of DepsMore.
-/
import Derived.Test.YtbcambjonjhopaaGreatDpU
namespace Go.Proofs.YtbcambjonjhopaaGreat
open Go Go.RowKit

theorem meetsB_mono {p : List Cell} {c d : List (List Cell)} (h : ∀ t ∈ c, t ∈ d) (hm : meetsB p c = true) : meetsB p d = true := by
  unfold meetsB at *
  rw [List.any_eq_true] at *
  obtain ⟨t, ht, h2⟩ := hm
  exact ⟨t, h t ht, h2⟩
theorem tchB_mono {r : Res} {c d : List (List Cell)} (h : ∀ t ∈ c, t ∈ d) {i : Nat} (hm : tchB r c i = true) : tchB r d i = true := by
  unfold tchB at *
  split
  · rename_i hx; rw [hx] at hm; cases hm
  · rename_i t hx; rw [hx] at hm; exact meetsB_mono h hm
theorem touch_mono {r : Res} {c d : List (List Cell)} (h : ∀ t ∈ c, t ∈ d) : ∀ x ∈ touchL r c, x ∈ touchL r d := fun x hx => by
  unfold touchL at *
  rw [fltN_mem] at *
  exact ⟨hx.1, tchB_mono h hx.2⟩
theorem meetB_mono {a b b' : List Int} (h : ∀ x ∈ b, x ∈ b') (hm : meetB a b = true) : meetB a b' = true := by
  unfold meetB at *
  rw [List.any_eq_true] at *
  obtain ⟨x, hx, h2⟩ := hm
  exact ⟨x, hx, by rw [decide_eq_true_eq] at *; exact h x h2⟩
theorem natsZ_sub {a b : List Nat} (h : ∀ x ∈ a, x ∈ b) : ∀ x ∈ natsZ a, x ∈ natsZ b := fun x hx => by
  unfold natsZ at *
  obtain ⟨y, hy, rfl⟩ := List.mem_map.1 hx
  exact List.mem_map.2 ⟨y, h y hy, rfl⟩
theorem dirty_mono {r : Res} {c d : List (List Cell)} (h : ∀ t ∈ c, t ∈ d) : ∀ x ∈ dirtyL r c, x ∈ dirtyL r d := fun x hx => by
  unfold dirtyL at *
  rw [fltN_mem] at *
  exact ⟨hx.1, meetB_mono (natsZ_sub (touch_mono h)) hx.2⟩
theorem again_mono {r now : Res} {c d : List (List Cell)} (h : ∀ t ∈ c, t ∈ d) : ∀ x ∈ againL r now c, x ∈ againL r now d := fun x hx => by
  unfold againL at *
  rw [fltN_mem] at *
  refine ⟨hx.1, ?_⟩
  have h2 := hx.2
  unfold agnB anewB at *
  rw [Bool.or_eq_true] at *
  exact h2.imp (meetB_mono (natsZ_sub (touch_mono h))) id
theorem rows3I {T : TypeId} {w : World} {B : Nat} {v0 v1 v2 : Value} {t0 t1 t2 : List Int} (h : Row T w B [v0, v1, v2]) (h0 : Seq intE (fun _ => True) w v0 t0) (h1 : Seq intE (fun _ => True) w v1 t1) (h2 : Seq intE (fun _ => True) w v2 t2) : Seq (seqE intE) (fun _ => True) w (.slice (some ⟨B, 0, none⟩) 3 3) [t0, t1, t2] := by
  refine Row.seq h rfl (Nat.le_refl _) (by decide) (by simp) trivial fun k x hk => ?_
  match k, hk with
  | 0, hk =>
    simp at hk; subst hk
    refine ⟨[v0], ⟨v0, rfl, h0⟩, fun j hj => ?_⟩
    obtain rfl : j = 0 := by have : j < 1 := hj; omega
    rfl
  | 1, hk =>
    simp at hk; subst hk
    refine ⟨[v1], ⟨v1, rfl, h1⟩, fun j hj => ?_⟩
    obtain rfl : j = 0 := by have : j < 1 := hj; omega
    rfl
  | 2, hk =>
    simp at hk; subst hk
    refine ⟨[v2], ⟨v2, rfl, h2⟩, fun j hj => ?_⟩
    obtain rfl : j = 0 := by have : j < 1 := hj; omega
    rfl

theorem ChgOK.take {c : List (List Cell)} (h : ChgOK c) (k : Nat) : ChgOK (c.take k) :=
  ⟨by have := h.1; rw [List.length_take]; omega, fun t ht => h.2 t (List.mem_of_mem_take ht)⟩

set_option maxHeartbeats 12800000 in
set_option maxRecDepth 100000 in
theorem more_spec {S T S1 : Nat → Prop} {w : World} {v u x : Value} {r now : Res} {l : List (List Cell)} (hr : ResV S w v r) (hn : ResV T w u now) (hl : Seq (seqE cellE) S1 w x l) :
    Calls Tryz.prog 7 #[v, u, x] w (RetV (.bool true) w) := by
  obtain ⟨ta, tc, ia, il, ic, la, lc, rfl, hT, hE⟩ := hr
  obtain ⟨na, nc, ja, jl, jc, ma, mc, rfl, hN, hM⟩ := hn
  obtain ⟨W1, hW1⟩ : ∃ W, W = w.alloc (.cells #[.slice ta r.tabs.length tc, .slice ia il ic, .slice la r.lks.length lc] 26) := ⟨_, rfl⟩
  have HBW1 := Lib.hid (show Below w.heap.size w W1 by rw [hW1]; exact Seq.way)
  have HW1 := Lib.hid hW1
  have hsW1 : W1.heap.size = w.heap.size + 1 := by rw [hW1]; simp
  obtain ⟨b1t, hb1t⟩ : ∃ b, b = w.heap.size := ⟨_, rfl⟩
  have Hb1t := Lib.hid hb1t
  have HRW1 := Lib.hid (show RowA 26 W1 b1t [.slice ta r.tabs.length tc, .slice ia il ic, .slice la r.lks.length lc] by rw [hW1, show b1t = w.heap.size by omega]; exact Row.new w [_, _, _] _ rfl)
  have K1 := fun {W' : World} (h : Below W1.heap.size W1 W') => Lib.hid (show W'.cell? ⟨b1t, 0, none⟩ = some (.slice ta r.tabs.length tc) ∧ W'.cell? ⟨b1t, 1, none⟩ = some (.slice ia il ic) ∧ W'.cell? ⟨b1t, 2, none⟩ = some (.slice la r.lks.length lc) ∧ b1t < W'.heap.size from
    ⟨(HRW1.out.at h).row.cell (j := 0) (by simp), (HRW1.out.at h).row.cell (j := 1) (by simp), (HRW1.out.at h).row.cell (j := 2) (by simp), (HRW1.out.at h).row.lt⟩)
  obtain ⟨W, hW⟩ : ∃ W, W = W1.alloc (.cells #[.slice na now.tabs.length nc, .slice ja jl jc, .slice ma now.lks.length mc] 26) := ⟨_, rfl⟩
  have HBW := Lib.hid (show Below W1.heap.size W1 W by rw [hW]; exact Seq.way)
  have HW := Lib.hid hW
  have hsW : W.heap.size = W1.heap.size + 1 := by rw [hW]; simp
  obtain ⟨bt, hbt⟩ : ∃ b, b = w.heap.size + 1 := ⟨_, rfl⟩
  have Hbt := Lib.hid hbt
  have HRW := Lib.hid (show RowA 26 W bt [.slice na now.tabs.length nc, .slice ja jl jc, .slice ma now.lks.length mc] by rw [hW, show bt = W1.heap.size by omega]; exact Row.new W1 [_, _, _] _ rfl)
  have Kn := fun {W' : World} (h : Below W.heap.size W W') => Lib.hid (show W'.cell? ⟨bt, 0, none⟩ = some (.slice na now.tabs.length nc) ∧ W'.cell? ⟨bt, 1, none⟩ = some (.slice ja jl jc) ∧ W'.cell? ⟨bt, 2, none⟩ = some (.slice ma now.lks.length mc) ∧ bt < W'.heap.size from
    ⟨(HRW.out.at h).row.cell (j := 0) (by simp), (HRW.out.at h).row.cell (j := 1) (by simp), (HRW.out.at h).row.cell (j := 2) (by simp), (HRW.out.at h).row.lt⟩)
  have HBw := Lib.hid (below_step HBW.out HBW1.out)
  have HR := Lib.hid (show ResV (fun _ => True) W (.agg #[.slice ta r.tabs.length tc, .slice ia il ic, .slice la r.lks.length lc]) r from ResV.mk (hT.any.at HBw.out) (hE.any.at HBw.out))
  have HN := Lib.hid (show ResV (fun _ => True) W (.agg #[.slice na now.tabs.length nc, .slice ja jl jc, .slice ma now.lks.length mc]) now from ResV.mk (hN.any.at HBw.out) (hM.any.at HBw.out))
  have HL := Lib.hid (hl.at HBw.out)
  obtain ⟨xa, xc, rfl⟩ := hl.shape
  clear hT hE hN hM hl hW1 hW hb1t hbt hsW1 hsW
  have Kt := fun {W' : World} (h : Below W.heap.size W W') => K1 (below_step h HBW.out)
  go_enter Tryz.func7, Tryz.ntmps7
  go_upto_region 1 with fail
  rw [← HW1.out, ← HW.out, ← Hbt.out, ← Hb1t.out]
  go_wp2_with fail
  refine head_spec.mono ?_
  rintro e w1 ⟨rfl, hb1⟩
  have B1 := Lib.hid hb1
  clear hb1
  obtain ⟨n0, n1, n2, nl⟩ := (Kn B1.out).out
  obtain ⟨r0, r1, r2, rl⟩ := (Kt B1.out).out
  go_wp2_with fail
  refine (great_spec (HR.out.at B1.out)).mono ?_
  rintro e w2 ⟨rfl, hb2⟩
  have B2 := Lib.hid (below_step hb2 B1.out)
  clear hb2 n0 n1 n2 nl r0 r1 r2 rl
  obtain ⟨n0, n1, n2, nl⟩ := (Kn B2.out).out
  obtain ⟨r0, r1, r2, rl⟩ := (Kt B2.out).out
  cases hg : greatB r with
  | true =>
    clear hg
    go_wp2_with fail
    go_ret
    exact ⟨rfl, below_step B2.out HBw.out⟩
  | false =>
    have A := Lib.hid (ask_of hg)
    clear hg
    go_wp2_with fail
    refine (great_spec (HN.out.at B2.out)).mono ?_
    rintro e w3 ⟨rfl, hb3⟩
    have B3 := Lib.hid (below_step hb3 B2.out)
    clear hb3 n0 n1 n2 nl r0 r1 r2 rl
    cases hg : greatB now with
    | true =>
      clear hg
      go_wp2_with fail
      go_ret
      exact ⟨rfl, below_step B3.out HBw.out⟩
    | false =>
      clear hg
      by_cases hll : 30 < l.length
      · have hl2 : (30 : Int) < (l.length : Int) := by omega
        have hl3 : (l.length : Int) > 30 := by omega
        go_wp2_with fail
        go_ret
        exact ⟨rfl, below_step B3.out HBw.out⟩
      · have hl2 : ((30 : Int) < (l.length : Int)) = False := eq_false (by omega)
        have hl3 : ((l.length : Int) > 30) = False := eq_false (by omega)
        have hl4 : (30 < l.length) = False := eq_false (by omega)
        clear hll
        go_wp2_with fail
        refine (RowR_spec (most := 20) (HL.out.at B3.out) (by omega)).mono ?_
        rintro e w4 ⟨v4, rfl, hb4, hs4⟩
        have hok := Lib.hid (rowF_chg l)
        have hcl := rowF_len20 l
        obtain ⟨c, hc⟩ : ∃ c, c = rowF l 20 := ⟨_, rfl⟩
        rw [← hc] at hs4 hok hcl
        obtain ⟨ya, yc, rfl⟩ := hs4.shape
        have HC := Lib.hid hs4.any
        have B4 := Lib.hid (below_step hb4 B3.out)
        clear hc hs4 hb4 hl2 hl3 hl4
        have hqo : (c.length : Int) / 2 = ((c.length / 2 : Nat) : Int) := by omega
        have hqt : Int.tdiv (c.length : Int) 2 = ((c.length / 2 : Nat) : Int) := by rw [Int.tdiv_eq_ediv_of_nonneg (by omega)]; omega
        have hkl : c.length / 2 ≤ c.length := by omega
        obtain ⟨k2, hk2⟩ : ∃ k, k = c.length / 2 := ⟨_, rfl⟩
        rw [← hk2] at hqo hqt hkl
        have hk0 : (0 : Int) ≤ (k2 : Int) := by omega
        have hkI : (k2 : Int) ≤ (c.length : Int) := by omega
        clear hk2
        have hyc : c.length ≤ yc := by
          obtain ⟨_, _, ee, h, _⟩ := HC.out
          simp only [Value.slice.injEq, true_and] at ee
          obtain ⟨rfl, rfl⟩ := ee
          exact h
        have hkc : (k2 : Int) ≤ (yc : Int) := by omega
        clear hyc
        have HLs := Lib.hid (show Seq (seqE cellE) (fun _ => True) w4 (.slice ya k2 yc) (c.take k2) from Seq.take HC.out hkl)
        have hokl := Lib.hid (ChgOK.take hok.out k2)
        have h1 := Lib.hid (fun (W' : World) (h : Below w4.heap.size w4 W') => TouchedP_spec (w := W') (HR.out.at (below_step h B4.out)) (HLs.out.at h) A.out.ok.tl A.out.rt hokl.out)
        have h2 := Lib.hid (fun (W' : World) (h : Below w4.heap.size w4 W') => DirtyP_spec (w := W') (HR.out.at (below_step h B4.out)) (HLs.out.at h) A.out.ok A.out.rt hokl.out)
        have h3 := Lib.hid (fun (W' : World) (h : Below w4.heap.size w4 W') => AgainP_spec (w := W') (HR.out.at (below_step h B4.out)) (HN.out.at (below_step h B4.out)) (HLs.out.at h) A.out.ok A.out.rt hokl.out)
        have h4 := Lib.hid (fun (W' : World) (h : Below w4.heap.size w4 W') => TouchedP_spec (w := W') (HR.out.at (below_step h B4.out)) (HC.out.at h) A.out.ok.tl A.out.rt hok.out)
        have h5 := Lib.hid (fun (W' : World) (h : Below w4.heap.size w4 W') => DirtyP_spec (w := W') (HR.out.at (below_step h B4.out)) (HC.out.at h) A.out.ok A.out.rt hok.out)
        have h6 := Lib.hid (fun (W' : World) (h : Below w4.heap.size w4 W') => AgainP_spec (w := W') (HR.out.at (below_step h B4.out)) (HN.out.at (below_step h B4.out)) (HC.out.at h) A.out.ok A.out.rt hok.out)
        have hsb : ∀ t ∈ c.take k2, t ∈ c := fun t ht => List.mem_of_mem_take ht
        have hs1 := natsZ_sub (touch_mono (r := r) hsb)
        have hs2 := natsZ_sub (dirty_mono (r := r) hsb)
        have hs3 := natsZ_sub (again_mono (r := r) (now := now) hsb)
        obtain ⟨q1, hq1⟩ : ∃ q, q = natsZ (touchL r (c.take k2)) := ⟨_, rfl⟩
        obtain ⟨q2, hq2⟩ : ∃ q, q = natsZ (dirtyL r (c.take k2)) := ⟨_, rfl⟩
        obtain ⟨q3, hq3⟩ : ∃ q, q = natsZ (againL r now (c.take k2)) := ⟨_, rfl⟩
        obtain ⟨q4, hq4⟩ : ∃ q, q = natsZ (touchL r c) := ⟨_, rfl⟩
        obtain ⟨q5, hq5⟩ : ∃ q, q = natsZ (dirtyL r c) := ⟨_, rfl⟩
        obtain ⟨q6, hq6⟩ : ∃ q, q = natsZ (againL r now c) := ⟨_, rfl⟩
        rw [← hq1] at h1 hs1
        rw [← hq2] at h2 hs2
        rw [← hq3] at h3 hs3
        rw [← hq4] at h4 hs1
        rw [← hq5] at h5 hs2
        rw [← hq6] at h6 hs3
        have HSub := Lib.hid (show ∀ (k : Nat) xs ys, [q1, q2, q3][k]? = some xs → [q4, q5, q6][k]? = some ys → ∀ x ∈ xs, x ∈ ys from fun k xs ys h1 h2 => by
          match k, h1, h2 with
          | 0, h1, h2 => simp at h1 h2; subst h1 h2; exact hs1
          | 1, h1, h2 => simp at h1 h2; subst h1 h2; exact hs2
          | 2, h1, h2 => simp at h1 h2; subst h1 h2; exact hs3)
        clear hq1 hq2 hq3 hq4 hq5 hq6 hs1 hs2 hs3 hsb
        have Hqo := Lib.hid hqo
        clear hqo
        have Kq := fun {W' : World} (h : Below w4.heap.size w4 W') => Lib.hid (show W'.cell? ⟨b1t, 0, none⟩ = some (.slice ta r.tabs.length tc) ∧ W'.cell? ⟨b1t, 1, none⟩ = some (.slice ia il ic) ∧ W'.cell? ⟨b1t, 2, none⟩ = some (.slice la r.lks.length lc) ∧ W'.cell? ⟨bt, 0, none⟩ = some (.slice na now.tabs.length nc) ∧ W'.cell? ⟨bt, 1, none⟩ = some (.slice ja jl jc) ∧ W'.cell? ⟨bt, 2, none⟩ = some (.slice ma now.lks.length mc) from
          ⟨((Kt (below_step h B4.out)).out).1, ((Kt (below_step h B4.out)).out).2.1, ((Kt (below_step h B4.out)).out).2.2.1, ((Kn (below_step h B4.out)).out).1, ((Kn (below_step h B4.out)).out).2.1, ((Kn (below_step h B4.out)).out).2.2.1⟩)
        go_upto_region 6 with fail
        clear hqt hk0 hkI hkl hkc
        (try simp only [List.append_eq, List.cons_append, List.nil_append])
        refine wp_region_noPanic ?_
        refine wp_region_held_drew (S := fun w' => w'.cell? ⟨b1t, 0, none⟩ = some (.slice ta r.tabs.length tc) ∧ w'.cell? ⟨b1t, 1, none⟩ = some (.slice ia il ic) ∧ w'.cell? ⟨b1t, 2, none⟩ = some (.slice la r.lks.length lc) ∧ w'.cell? ⟨bt, 0, none⟩ = some (.slice na now.tabs.length nc) ∧ w'.cell? ⟨bt, 1, none⟩ = some (.slice ja jl jc) ∧ w'.cell? ⟨bt, 2, none⟩ = some (.slice ma now.lks.length mc)) (by kernel_rfl) ?_ (fun hHeld => ?_)
        · exact (Kq (Below.drew (Below.refl _ _))).out
        refine wpAnyH_take1 (i := 0) (oi := _) (v := ?_) (by kernel_rfl) rfl (by kernel_rfl) (fun _ _ _ h => h) (Or.inl ⟨by rfl, ?_⟩) (by assumption) ?_
        rotate_left 1
        · intro w hSw; (try dsimp only at hSw); go_simp; (with_reducible rfl)
        (try simp only [Act.put, List.getElem_toArray, List.getElem_cons_zero, List.setIfInBounds_toArray, List.set_cons_zero, List.set_cons_succ])
        refine wpAnyH_take1 (i := 1) (oi := _) (v := ?_) (by kernel_rfl) rfl (by kernel_rfl) (fun _ _ _ h => h) (Or.inl ⟨by rfl, ?_⟩) (by assumption) ?_
        rotate_left 1
        · intro w hSw; (try dsimp only at hSw); go_simp; (with_reducible rfl)
        (try simp only [Act.put, List.getElem_toArray, List.getElem_cons_zero, List.getElem_cons_succ, List.setIfInBounds_toArray, List.set_cons_zero, List.set_cons_succ])
        refine wpAnyH_take1 (i := 3) (oi := _) (v := ?_) (by kernel_rfl) rfl (by kernel_rfl) (fun _ _ _ h => h) (Or.inl ⟨by rfl, ?_⟩) (by assumption) ?_
        rotate_left 1
        · intro w hSw; (try dsimp only at hSw); go_simp; (with_reducible rfl)
        (try simp only [Act.put, List.getElem_toArray, List.getElem_cons_zero, List.getElem_cons_succ, List.setIfInBounds_toArray, List.set_cons_zero, List.set_cons_succ])
        refine wpAnyH_take1 (i := 4) (oi := _) (v := ?_) (by kernel_rfl) rfl (by kernel_rfl) (fun _ _ _ h => h) (Or.inl ⟨by rfl, ?_⟩) (by assumption) ?_
        rotate_left 1
        · intro w hSw; (try dsimp only at hSw); go_simp; (with_reducible rfl)
        (try simp only [Act.put, List.getElem_toArray, List.getElem_cons_zero, List.getElem_cons_succ, List.setIfInBounds_toArray, List.set_cons_zero, List.set_cons_succ])
        refine wpAnyH_take1 (i := 6) (oi := _) (v := ?_) (by kernel_rfl) rfl (by kernel_rfl) (fun _ _ _ h => h) (Or.inl ⟨by rfl, ?_⟩) (by assumption) ?_
        rotate_left 1
        · intro w hSw; (try dsimp only at hSw); go_simp; (with_reducible rfl)
        (try simp only [Act.put, List.getElem_toArray, List.getElem_cons_zero, List.getElem_cons_succ, List.setIfInBounds_toArray, List.set_cons_zero, List.set_cons_succ])
        refine wpAnyH_take1 (i := 7) (oi := _) (v := ?_) (by kernel_rfl) rfl (by kernel_rfl) (fun _ _ _ h => h) (Or.inl ⟨by rfl, ?_⟩) (by assumption) ?_
        rotate_left 1
        · intro w hSw; (try dsimp only at hSw); go_simp; (with_reducible rfl)
        (try simp only [Act.put, List.getElem_toArray, List.getElem_cons_zero, List.getElem_cons_succ, List.setIfInBounds_toArray, List.set_cons_zero, List.set_cons_succ])
        refine wpAnyH_take1 (i := 8) (oi := _) (v := ?_) (by kernel_rfl) rfl (by kernel_rfl) (fun _ _ _ h => h) (Or.inl ⟨by rfl, ?_⟩) (by assumption) ?_
        rotate_left 1
        · intro w hSw; (try dsimp only at hSw); go_simp; (with_reducible rfl)
        (try simp only [Act.put, List.getElem_toArray, List.getElem_cons_zero, List.getElem_cons_succ, List.setIfInBounds_toArray, List.set_cons_zero, List.set_cons_succ])
        refine wpAnyH_one (i := 2) (by kernel_rfl) rfl (by rfl) fun K hK => ?_
        go_simp
        refine (h1.out _ Seq.way).mono ?_
        rintro e y1 ⟨v1, rfl, hy1, hs1⟩
        have HY1 := below_step hy1 (Seq.way : Below w4.heap.size w4 _)
        have zy1 := HY1.size
        (try dsimp only)
        clear hHeld
        refine hK.out _ _ (Kq HY1).out fun hHeld => ?_
        clear hK K
        (try simp only [Act.put, List.getElem_toArray, List.getElem_cons_zero, List.getElem_cons_succ, List.setIfInBounds_toArray, List.set_cons_zero, List.set_cons_succ])
        have HS1 := Lib.hid hs1.any
        obtain ⟨a1, c1, rfl⟩ := hs1.shape
        clear hs1
        refine wpAnyH_one (i := 5) (by kernel_rfl) rfl (by rfl) fun K hK => ?_
        go_simp
        refine (h2.out _ Seq.way).mono ?_
        rintro e y2 ⟨v2, rfl, hy2, hs2⟩
        have HY2 := below_step hy2 (Seq.way : Below w4.heap.size w4 _)
        have zy2 := HY2.size
        (try dsimp only)
        clear hHeld
        refine hK.out _ _ (Kq HY2).out fun hHeld => ?_
        clear hK K
        (try simp only [Act.put, List.getElem_toArray, List.getElem_cons_zero, List.getElem_cons_succ, List.setIfInBounds_toArray, List.set_cons_zero, List.set_cons_succ])
        have HS2 := Lib.hid hs2.any
        obtain ⟨a2, c2, rfl⟩ := hs2.shape
        clear hs2
        refine wpAnyH_one (i := 9) (by kernel_rfl) rfl (by rfl) fun K hK => ?_
        go_simp
        refine (h3.out _ Seq.way).mono ?_
        rintro e y3 ⟨v3, rfl, hy3, hs3⟩
        have HY3 := below_step hy3 (Seq.way : Below w4.heap.size w4 _)
        have zy3 := HY3.size
        (try dsimp only)
        clear hHeld
        refine hK.out _ _ (Kq HY3).out fun hHeld => ?_
        clear hK K
        (try simp only [Act.put, List.getElem_toArray, List.getElem_cons_zero, List.getElem_cons_succ, List.setIfInBounds_toArray, List.set_cons_zero, List.set_cons_succ])
        have HS3 := Lib.hid hs3.any
        obtain ⟨a3, c3, rfl⟩ := hs3.shape
        clear hs3
        refine wpAnyH_one (i := 10) (by kernel_rfl) rfl (by rfl) fun K hK => ?_
        go_simp
        obtain ⟨z1, hz1⟩ : ∃ Z, Z = y3.alloc (.cells #[.slice a1 q1.length c1, .slice a2 q2.length c2, .slice a3 q3.length c3] 32) := ⟨_, rfl⟩
        have HZ1 := Lib.hid (show Below w4.heap.size w4 z1 by rw [hz1]; exact below_step Seq.way HY3)
        have HT1 := Lib.hid (show Below y1.heap.size y1 z1 by rw [hz1]; exact below_step Seq.way (below_step hy3 hy2))
        obtain ⟨r1, hr1⟩ : ∃ o, o = some (⟨y3.heap.size, 0, none⟩ : Addr) := ⟨_, rfl⟩
        have HA1 := Lib.hid (show Seq (seqE intE) (fun _ => True) z1 (.slice r1 3 3) [q1, q2, q3] by rw [hz1, hr1]; exact rows3I (Row.new y3 [_, _, _] _ rfl) (HS1.out.at (below_step Seq.way (below_step hy3 hy2))) (HS2.out.at (below_step Seq.way hy3)) (HS3.out.at Seq.way))
        rw [← hz1, ← hr1]
        clear hz1 hr1
        (try dsimp only)
        clear hHeld
        refine hK.out _ _ (Kq HZ1.out).out fun hHeld => ?_
        clear hK K
        (try simp only [Act.put, List.getElem_toArray, List.getElem_cons_zero, List.getElem_cons_succ, List.setIfInBounds_toArray, List.set_cons_zero, List.set_cons_succ])
        refine wpAnyH_take1 (i := 11) (oi := _) (v := ?_) (by kernel_rfl) rfl (by kernel_rfl) (fun _ _ _ h => h) (Or.inl ⟨by rfl, ?_⟩) (by assumption) ?_
        rotate_left 1
        · intro w hSw; (try dsimp only at hSw); go_simp; (with_reducible rfl)
        (try simp only [Act.put, List.getElem_toArray, List.getElem_cons_zero, List.getElem_cons_succ, List.setIfInBounds_toArray, List.set_cons_zero, List.set_cons_succ])
        refine wpAnyH_done (by kernel_rfl) ?_ _
        refine NoPanic.normal ?_

        have KQ2 := fun {W' : World} (h : Below z1.heap.size z1 W') => Kq (below_step h HZ1.out)
        go_upto_region 7 with fail
        (try simp only [List.append_eq, List.cons_append, List.nil_append])
        refine wp_region_noPanic ?_
        refine wp_region_held_drew (S := fun w' => w'.cell? ⟨b1t, 0, none⟩ = some (.slice ta r.tabs.length tc) ∧ w'.cell? ⟨b1t, 1, none⟩ = some (.slice ia il ic) ∧ w'.cell? ⟨b1t, 2, none⟩ = some (.slice la r.lks.length lc) ∧ w'.cell? ⟨bt, 0, none⟩ = some (.slice na now.tabs.length nc) ∧ w'.cell? ⟨bt, 1, none⟩ = some (.slice ja jl jc) ∧ w'.cell? ⟨bt, 2, none⟩ = some (.slice ma now.lks.length mc)) (by kernel_rfl) ?_ (fun hHeld => ?_)
        · exact (KQ2 (Below.drew (Below.refl _ _))).out
        refine wpAnyH_take1 (i := 0) (oi := _) (v := ?_) (by kernel_rfl) rfl (by kernel_rfl) (fun _ _ _ h => h) (Or.inl ⟨by rfl, ?_⟩) (by assumption) ?_
        rotate_left 1
        · intro w hSw; (try dsimp only at hSw); go_simp; (with_reducible rfl)
        (try simp only [Act.put, List.getElem_toArray, List.getElem_cons_zero, List.setIfInBounds_toArray, List.set_cons_zero, List.set_cons_succ])
        refine wpAnyH_take1 (i := 1) (oi := _) (v := ?_) (by kernel_rfl) rfl (by kernel_rfl) (fun _ _ _ h => h) (Or.inl ⟨by rfl, ?_⟩) (by assumption) ?_
        rotate_left 1
        · intro w hSw; (try dsimp only at hSw); go_simp; (with_reducible rfl)
        (try simp only [Act.put, List.getElem_toArray, List.getElem_cons_zero, List.getElem_cons_succ, List.setIfInBounds_toArray, List.set_cons_zero, List.set_cons_succ])
        refine wpAnyH_take1 (i := 3) (oi := _) (v := ?_) (by kernel_rfl) rfl (by kernel_rfl) (fun _ _ _ h => h) (Or.inl ⟨by rfl, ?_⟩) (by assumption) ?_
        rotate_left 1
        · intro w hSw; (try dsimp only at hSw); go_simp; (with_reducible rfl)
        (try simp only [Act.put, List.getElem_toArray, List.getElem_cons_zero, List.getElem_cons_succ, List.setIfInBounds_toArray, List.set_cons_zero, List.set_cons_succ])
        refine wpAnyH_take1 (i := 4) (oi := _) (v := ?_) (by kernel_rfl) rfl (by kernel_rfl) (fun _ _ _ h => h) (Or.inl ⟨by rfl, ?_⟩) (by assumption) ?_
        rotate_left 1
        · intro w hSw; (try dsimp only at hSw); go_simp; (with_reducible rfl)
        (try simp only [Act.put, List.getElem_toArray, List.getElem_cons_zero, List.getElem_cons_succ, List.setIfInBounds_toArray, List.set_cons_zero, List.set_cons_succ])
        refine wpAnyH_take1 (i := 6) (oi := _) (v := ?_) (by kernel_rfl) rfl (by kernel_rfl) (fun _ _ _ h => h) (Or.inl ⟨by rfl, ?_⟩) (by assumption) ?_
        rotate_left 1
        · intro w hSw; (try dsimp only at hSw); go_simp; (with_reducible rfl)
        (try simp only [Act.put, List.getElem_toArray, List.getElem_cons_zero, List.getElem_cons_succ, List.setIfInBounds_toArray, List.set_cons_zero, List.set_cons_succ])
        refine wpAnyH_take1 (i := 7) (oi := _) (v := ?_) (by kernel_rfl) rfl (by kernel_rfl) (fun _ _ _ h => h) (Or.inl ⟨by rfl, ?_⟩) (by assumption) ?_
        rotate_left 1
        · intro w hSw; (try dsimp only at hSw); go_simp; (with_reducible rfl)
        (try simp only [Act.put, List.getElem_toArray, List.getElem_cons_zero, List.getElem_cons_succ, List.setIfInBounds_toArray, List.set_cons_zero, List.set_cons_succ])
        refine wpAnyH_take1 (i := 8) (oi := _) (v := ?_) (by kernel_rfl) rfl (by kernel_rfl) (fun _ _ _ h => h) (Or.inl ⟨by rfl, ?_⟩) (by assumption) ?_
        rotate_left 1
        · intro w hSw; (try dsimp only at hSw); go_simp; (with_reducible rfl)
        (try simp only [Act.put, List.getElem_toArray, List.getElem_cons_zero, List.getElem_cons_succ, List.setIfInBounds_toArray, List.set_cons_zero, List.set_cons_succ])
        refine wpAnyH_one (i := 2) (by kernel_rfl) rfl (by rfl) fun K hK => ?_
        go_simp
        refine (h4.out _ (below_step Seq.way HZ1.out)).mono ?_
        rintro e y4 ⟨v4, rfl, hy4, hs4⟩
        have HY4 := below_step hy4 (Seq.way : Below z1.heap.size z1 _)
        have zy4 := HY4.size
        (try dsimp only)
        clear hHeld
        refine hK.out _ _ (KQ2 HY4).out fun hHeld => ?_
        clear hK K
        (try simp only [Act.put, List.getElem_toArray, List.getElem_cons_zero, List.getElem_cons_succ, List.setIfInBounds_toArray, List.set_cons_zero, List.set_cons_succ])
        have HS4 := Lib.hid hs4.any
        obtain ⟨a4, c4, rfl⟩ := hs4.shape
        clear hs4
        refine wpAnyH_one (i := 5) (by kernel_rfl) rfl (by rfl) fun K hK => ?_
        go_simp
        refine (h5.out _ (below_step Seq.way HZ1.out)).mono ?_
        rintro e y5 ⟨v5, rfl, hy5, hs5⟩
        have HY5 := below_step hy5 (Seq.way : Below z1.heap.size z1 _)
        have zy5 := HY5.size
        (try dsimp only)
        clear hHeld
        refine hK.out _ _ (KQ2 HY5).out fun hHeld => ?_
        clear hK K
        (try simp only [Act.put, List.getElem_toArray, List.getElem_cons_zero, List.getElem_cons_succ, List.setIfInBounds_toArray, List.set_cons_zero, List.set_cons_succ])
        have HS5 := Lib.hid hs5.any
        obtain ⟨a5, c5, rfl⟩ := hs5.shape
        clear hs5
        refine wpAnyH_one (i := 9) (by kernel_rfl) rfl (by rfl) fun K hK => ?_
        go_simp
        refine (h6.out _ (below_step Seq.way HZ1.out)).mono ?_
        rintro e y6 ⟨v6, rfl, hy6, hs6⟩
        have HY6 := below_step hy6 (Seq.way : Below z1.heap.size z1 _)
        have zy6 := HY6.size
        (try dsimp only)
        clear hHeld
        refine hK.out _ _ (KQ2 HY6).out fun hHeld => ?_
        clear hK K
        (try simp only [Act.put, List.getElem_toArray, List.getElem_cons_zero, List.getElem_cons_succ, List.setIfInBounds_toArray, List.set_cons_zero, List.set_cons_succ])
        have HS6 := Lib.hid hs6.any
        obtain ⟨a6, c6, rfl⟩ := hs6.shape
        clear hs6
        refine wpAnyH_one (i := 10) (by kernel_rfl) rfl (by rfl) fun K hK => ?_
        go_simp
        obtain ⟨z2, hz2⟩ : ∃ Z, Z = y6.alloc (.cells #[.slice a4 q4.length c4, .slice a5 q5.length c5, .slice a6 q6.length c6] 32) := ⟨_, rfl⟩
        have HZ2 := Lib.hid (show Below w4.heap.size w4 z2 by rw [hz2]; exact below_step (below_step Seq.way HY6) HZ1.out)
        have HT2 := Lib.hid (show Below y4.heap.size y4 z2 by rw [hz2]; exact below_step Seq.way (below_step hy6 hy5))
        obtain ⟨r2, hr2⟩ : ∃ o, o = some (⟨y6.heap.size, 0, none⟩ : Addr) := ⟨_, rfl⟩
        have HB2 := Lib.hid (show Seq (seqE intE) (fun _ => True) z2 (.slice r2 3 3) [q4, q5, q6] by rw [hz2, hr2]; exact rows3I (Row.new y6 [_, _, _] _ rfl) (HS4.out.at (below_step Seq.way (below_step hy6 hy5))) (HS5.out.at (below_step Seq.way hy6)) (HS6.out.at Seq.way))
        rw [← hz2, ← hr2]
        clear hz2 hr2
        (try dsimp only)
        clear hHeld
        refine hK.out _ _ (Kq HZ2.out).out fun hHeld => ?_
        clear hK K
        (try simp only [Act.put, List.getElem_toArray, List.getElem_cons_zero, List.getElem_cons_succ, List.setIfInBounds_toArray, List.set_cons_zero, List.set_cons_succ])
        refine wpAnyH_take1 (i := 11) (oi := _) (v := ?_) (by kernel_rfl) rfl (by kernel_rfl) (fun _ _ _ h => h) (Or.inl ⟨by rfl, ?_⟩) (by assumption) ?_
        rotate_left 1
        · intro w hSw; (try dsimp only at hSw); go_simp; (with_reducible rfl)
        (try simp only [Act.put, List.getElem_toArray, List.getElem_cons_zero, List.getElem_cons_succ, List.setIfInBounds_toArray, List.set_cons_zero, List.set_cons_succ])
        refine wpAnyH_done (by kernel_rfl) ?_ _
        refine NoPanic.normal ?_
        have HN2 := Lib.hid (show Below z1.heap.size z1 z2 from below_step HT2.out HY4)

        · have HA := Lib.hid (HA1.out.at HN2.out)
          clear HA1 HS1 HS2 HS3 HS4 HS5 HS6 h1 h2 h3 h4 h5 h6
          obtain ⟨TA, hTA⟩ : ∃ t, t = [q1, q2, q3] := ⟨_, rfl⟩
          obtain ⟨TB, hTB⟩ : ∃ t, t = [q4, q5, q6] := ⟨_, rfl⟩
          have HTAl := Lib.hid (show TA.length = 3 by rw [hTA]; rfl)
          have HTBl := Lib.hid (show TB.length = 3 by rw [hTB]; rfl)
          rw [← hTA] at HA HSub
          rw [← hTB] at HB2 HSub
          clear hTA hTB
          have HF := Lib.hid (below_step (below_step HZ2.out B4.out) HBw.out)
          go_upto_region 9 with fail
          go_loopw [12] (fun i wz => ∃ k : Nat, k ≤ 3 ∧ i = .int .i64 k ∧ Hid (Below z2.heap.size z2 wz)) (fun i _ => 3 - (intOf i).toNat)
          case atStart => exact ⟨0, by omega, rfl, Lib.hid (Below.refl _ _)⟩
          case round =>
            obtain ⟨k, hk, rfl, hB⟩ := hrel
            obtain ⟨wo, rfl⟩ : ∃ Z, Z = wr := ⟨_, rfl⟩
            by_cases hk3 : k < 3
            · have hkI : (k : Int) < 3 := by omega
              have hk0 : (0 : Int) ≤ (k : Int) := by omega
              obtain ⟨xs, hxs⟩ : ∃ x, x = TA[k]'(by rw [HTAl.out]; omega) := ⟨_, rfl⟩
              obtain ⟨ys, hys⟩ : ∃ x, x = TB[k]'(by rw [HTBl.out]; omega) := ⟨_, rfl⟩
              have hss := Lib.hid (HSub.out k _ _ (List.getElem?_eq_getElem (by rw [HTAl.out]; omega)) (List.getElem?_eq_getElem (by rw [HTBl.out]; omega)))
              rw [← hxs, ← hys] at hss
              have Hxs := Lib.hid hxs
              have Hys := Lib.hid hys
              clear hxs hys
              go_upto_region 12 with fail
              go_loopw [13] (fun i wz => ∃ m : Nat, m ≤ xs.length ∧ i = .int .i64 m ∧ Hid (Below wo.heap.size wo wz)) (fun i _ => xs.length - (intOf i).toNat)
              case atStart => exact ⟨0, by omega, rfl, Lib.hid (Below.refl _ _)⟩
              case round =>
                obtain ⟨m, hm, rfl, hB2⟩ := hrel
                have hbr := below_step hB2.out hB.out
                obtain ⟨_, _, ee, -, -, -, -, x5⟩ := HA.out.at hbr
                simp only [Value.slice.injEq] at ee
                obtain ⟨rfl, -, rfl⟩ := ee
                obtain ⟨_, _, ee, -, -, -, -, y5⟩ := HB2.out.at hbr
                simp only [Value.slice.injEq] at ee
                obtain ⟨rfl, -, rfl⟩ := ee
                obtain ⟨b1, o1, p1, n1, e1, -, l1, c0, hX⟩ := x5.seq (k := k) (by rw [HTAl.out]; omega)
                obtain ⟨b2, o2, p2, n2, e2, -, l2, d0, hY⟩ := y5.seq (k := k) (by rw [HTBl.out]; omega)
                subst e1 e2
                rw [← Hxs.out] at c0 hX
                rw [← Hys.out] at d0 hY
                clear x5 y5
                have hxl : xs.length ≤ 140737488355328 := by obtain ⟨_, _, _, _, _, h, _⟩ := hX; exact h
                by_cases hmx : m < xs.length
                · obtain ⟨_, _, ee, -, -, -, -, x5⟩ := hX
                  simp only [Value.slice.injEq, true_and] at ee
                  obtain ⟨rfl, rfl⟩ := ee
                  obtain ⟨b3, o3, rfl, -, l3, c1, -⟩ := x5.int hmx
                  have hin := Lib.hid (hss.out _ (List.getElem_mem hmx))
                  obtain ⟨xv, hxv⟩ : ∃ x, x = xs[m] := ⟨_, rfl⟩
                  rw [← hxv] at c1 hin
                  clear hxv
                  have HY := Lib.hid hY
                  clear hY
                  have hmI : (m : Int) < (xs.length : Int) := by omega
                  have hm0 : (0 : Int) ≤ (m : Int) := by omega
                  go_upto_region 14 with fail
                  go_still_tail 11, (by kernel_rfl)
                  go_wp2_with fail
                  refine (InT_spec (HY.out.at Seq.way)).mono ?_
                  rintro e _ ⟨rfl, rfl⟩
                  rw [decide_eq_true hin.out]
                  clear hin
                  go_wp2_with fail
                  go_roundw
                  case rel => exact ⟨m + 1, hmx, by go_num, Lib.hid (below_step Seq.way hB2.out)⟩
                  case measure => simp [intOf]; omega
                · have hmI : ¬ (m : Int) < (xs.length : Int) := by omega
                  go_wp2_with fail
                  go_roundw
                  case rel => exact ⟨k + 1, hk3, by go_num, Lib.hid hbr⟩
                  case measure => simp [intOf]; omega
            · have hkI : ¬ (k : Int) < 3 := by omega
              go_wp2_with fail
              go_ret
              exact ⟨rfl, below_step hB.out HF.out⟩
end Go.Proofs.YtbcambjonjhopaaGreat
