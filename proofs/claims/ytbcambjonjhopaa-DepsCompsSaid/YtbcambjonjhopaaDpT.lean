/-
  Layer 23's head: the walk.
-/
import Derived.Test.YtbcambjonjhopaaDpS
namespace Go.Proofs.Ytbcambjonjhopaa
open Go Go.RowKit

theorem ResV.bnd {S : Nat → Prop} {w : World} {v : Value} {r : Res} (h : ResV S w v r) : ResV (fun b => b < w.heap.size) w v r := by
  obtain ⟨ta, tc, ia, il, ic, la, lc, rfl, h, h2⟩ := h
  exact ⟨ta, tc, ia, il, ic, la, lc, rfl, h.bnd.mono (fun _ h _ => h.2) (fun _ _ _ => rfl), h2.bnd.mono (fun _ h _ => h.2) (fun _ _ _ => rfl)⟩
theorem rowT1 {T : TypeId} {w : World} {B : Nat} {v0 : Value} {t0 : List Cell} (h : Row T w B [v0]) (h0 : Seq cellE (fun _ => True) w v0 t0) : Seq (seqE cellE) (fun _ => True) w (.slice (some ⟨B, 0, none⟩) 1 1) [t0] := by
  refine Row.seq h rfl (Nat.le_refl _) (by decide) (by simp) trivial fun k x hk => ?_
  match k, hk with
  | 0, hk =>
    simp at hk; subst hk
    refine ⟨[v0], ⟨v0, rfl, h0⟩, fun j hj => ?_⟩
    obtain rfl : j = 0 := by have : j < 1 := hj; omega
    rfl
theorem rowsI2 {T : TypeId} {w : World} {B : Nat} {v0 v1 : Value} {t0 t1 : List Int} (h : Row T w B [v0, v1]) (h0 : Seq intE (fun _ => True) w v0 t0) (h1 : Seq intE (fun _ => True) w v1 t1) : Seq (seqE intE) (fun _ => True) w (.slice (some ⟨B, 0, none⟩) 2 2) [t0, t1] := by
  refine Row.seq h rfl (Nat.le_refl _) (by decide) (by simp) trivial fun k x hk => ?_
  match k, hk with
  | 0, hk =>
    simp at hk; subst hk
    refine ⟨[v0], ⟨v0, rfl, h0⟩, fun j hj => ?_⟩
    obtain rfl : j = 0 := by have : j < 1 := hj; omega
    rfl
  | 1, hk =>
    simp at hk; subst hk
    refine ⟨[v1], ⟨v1, rfl, h1⟩, fun j hj => ?_⟩
    obtain rfl : j = 0 := by have : j < 1 := hj; omega
    rfl
theorem litI {T : TypeId} {w : World} {B n : Nat} {xs : List Int} (h : Row T w B (xs.map (Value.int .i64))) (hn : n = xs.length) (hl : xs.length ≤ 10) (hok : ∀ x ∈ xs, -9223372036854775808 ≤ x ∧ x ≤ 9223372036854775807) : Seq intE (fun _ => True) w (.slice (some ⟨B, 0, none⟩) n n) xs :=
  RowI.seq (T := T) h hn (Nat.le_refl _) (by unfold maxLen; omega) (by omega) trivial hok

set_option maxHeartbeats 25600000 in
set_option maxRecDepth 100000 in
theorem head_spec {w : World} : Calls Try.prog 4 #[] w (RetV (.bool true) w) := by
  go_enter Try.func4, Try.ntmps4
  go_wp2_with fail
  refine two_spec.mono ?_
  rintro e w1 ⟨v1, rfl, hb1, ht1⟩
  have HV1 := Lib.hid ht1
  obtain ⟨xb, xl, x0, y0, x1, y1, rfl, -⟩ := ht1
  have HR1 := Lib.hid HV1.out.res.bnd
  have B1 := Lib.hid hb1
  clear hb1
  obtain ⟨W1, hW1⟩ : ∃ W, W = w1.alloc (.cells #[.slice (some ⟨xb, 0, none⟩) 2 2, .slice none 0 0, .slice (some ⟨xl, 0, none⟩) 1 1] 26) := ⟨_, rfl⟩
  have HBW1 := Lib.hid (show Below w1.heap.size w1 W1 by rw [hW1]; exact Seq.way)
  have HW1 := Lib.hid hW1
  have hsW1 : W1.heap.size = w1.heap.size + 1 := by rw [hW1]; simp
  obtain ⟨br, hbr⟩ : ∃ b, b = w1.heap.size := ⟨_, rfl⟩
  have Hbr := Lib.hid hbr
  have HRW1 := Lib.hid (show RowA 26 W1 br [.slice (some ⟨xb, 0, none⟩) 2 2, .slice none 0 0, .slice (some ⟨xl, 0, none⟩) 1 1] by rw [hW1, show br = w1.heap.size by omega]; exact Row.new w1 [_, _, _] _ rfl)
  have K1 := fun {W' : World} (h : Below W1.heap.size W1 W') => Lib.hid (show W'.cell? ⟨br, 0, none⟩ = some (.slice (some ⟨xb, 0, none⟩) 2 2) ∧ W'.cell? ⟨br, 1, none⟩ = some (.slice none 0 0) ∧ W'.cell? ⟨br, 2, none⟩ = some (.slice (some ⟨xl, 0, none⟩) 1 1) ∧ br < W'.heap.size from
    ⟨(HRW1.out.at h).row.cell (j := 0) (by simp), (HRW1.out.at h).row.cell (j := 1) (by simp), (HRW1.out.at h).row.cell (j := 2) (by simp), (HRW1.out.at h).row.lt⟩)
  clear hbr
  go_upto_region 2 with fail
  rw [← HW1.out, ← Hbr.out]
  clear hW1 hsW1
  go_wp2_with fail
  refine two_spec.mono ?_
  rintro e w2 ⟨v2, rfl, hb2, ht2⟩
  obtain ⟨zb, zl, z0, s0, z1, s1, rfl, q1, q2, q3, q4, q5⟩ := ht2
  have Q := Lib.hid (And.intro q1 (And.intro q2 (And.intro q3 (And.intro q4 q5))))
  have hzl := q2.lt
  have B2 := Lib.hid hb2
  clear hb2 q2 q3 q4 q5
  obtain ⟨W2, hW2⟩ : ∃ W, W = w2.alloc (.cells #[.slice (some ⟨zb, 0, none⟩) 2 2, .slice none 0 0, .slice (some ⟨zl, 0, none⟩) 1 1] 26) := ⟨_, rfl⟩
  have HBW2 := Lib.hid (show Below w2.heap.size w2 W2 by rw [hW2]; exact Seq.way)
  have HW2 := Lib.hid hW2
  have hsW2 : W2.heap.size = w2.heap.size + 1 := by rw [hW2]; simp
  obtain ⟨bn, hbn⟩ : ∃ b, b = w2.heap.size := ⟨_, rfl⟩
  have Hbn := Lib.hid hbn
  have HRW2 := Lib.hid (show RowA 26 W2 bn [.slice (some ⟨zb, 0, none⟩) 2 2, .slice none 0 0, .slice (some ⟨zl, 0, none⟩) 1 1] by rw [hW2, show bn = w2.heap.size by omega]; exact Row.new w2 [_, _, _] _ rfl)
  have K2 := fun {W' : World} (h : Below W2.heap.size W2 W') => Lib.hid (show W'.cell? ⟨bn, 0, none⟩ = some (.slice (some ⟨zb, 0, none⟩) 2 2) ∧ W'.cell? ⟨bn, 1, none⟩ = some (.slice none 0 0) ∧ W'.cell? ⟨bn, 2, none⟩ = some (.slice (some ⟨zl, 0, none⟩) 1 1) ∧ bn < W'.heap.size from
    ⟨(HRW2.out.at h).row.cell (j := 0) (by simp), (HRW2.out.at h).row.cell (j := 1) (by simp), (HRW2.out.at h).row.cell (j := 2) (by simp), (HRW2.out.at h).row.lt⟩)
  obtain ⟨W3, hW3⟩ : ∃ W, W = W2.alloc (.cells #[.int .i64 2, .string ⟨#[]⟩, .int .i64 1] 38) := ⟨_, rfl⟩
  have HBW3 := Lib.hid (show Below W2.heap.size W2 W3 by rw [hW3]; exact Seq.way)
  have HW3 := Lib.hid hW3
  have hsW3 : W3.heap.size = W2.heap.size + 1 := by rw [hW3]; simp
  obtain ⟨bq, hbq⟩ : ∃ b, b = w2.heap.size + 1 := ⟨_, rfl⟩
  have Hbq := Lib.hid hbq
  have HRW3 := Lib.hid (show RowA 38 W3 bq [.int .i64 2, .string ⟨#[]⟩, .int .i64 1] by rw [hW3, show bq = W2.heap.size by omega]; exact Row.new W2 [_, _, _] _ rfl)
  have K3 := fun {W' : World} (h : Below W3.heap.size W3 W') => Lib.hid (show W'.cell? ⟨bq, 0, none⟩ = some (.int .i64 2) ∧ W'.cell? ⟨bq, 1, none⟩ = some (.string ⟨#[]⟩) ∧ W'.cell? ⟨bq, 2, none⟩ = some (.int .i64 1) ∧ bq < W'.heap.size from
    ⟨(HRW3.out.at h).row.cell (j := 0) (by simp), (HRW3.out.at h).row.cell (j := 1) (by simp), (HRW3.out.at h).row.cell (j := 2) (by simp), (HRW3.out.at h).row.lt⟩)
  have Hs2 := Lib.hid (show zb < w2.heap.size ∧ W1.heap.size ≤ zb ∧ bn = w2.heap.size ∧ bq = w2.heap.size + 1 ∧ W2.heap.size = w2.heap.size + 1 ∧ W3.heap.size = w2.heap.size + 2 from ⟨hzl, q1, hbn, hbq, hsW2, by omega⟩)
  go_upto_region 4 with fail
  rw [← HW2.out, ← HW3.out, ← Hbq.out, ← Hbn.out]
  clear hbn hbq hsW2 hsW3 hW2 hW3 hzl q1
  have K2b := fun {W' : World} (h : Below W3.heap.size W3 W') => K2 (below_step h HBW3.out)
  have Kq := fun {W' : World} (h : Below W3.heap.size W3 W') => Lib.hid (show W'.cell? ⟨bn, 0, none⟩ = some (.slice (some ⟨zb, 0, none⟩) 2 2) ∧ W'.cell? ⟨bq, 0, none⟩ = some (.int .i64 2) ∧ W'.cell? ⟨bq, 1, none⟩ = some (.string ⟨#[]⟩) ∧ W'.cell? ⟨bq, 2, none⟩ = some (.int .i64 1) from
    ⟨((K2b h).out).1, ((K3 h).out).1, ((K3 h).out).2.1, ((K3 h).out).2.2.1⟩)
  obtain ⟨d0, d1, d2, dl⟩ := (K2b (Below.refl _ W3)).out
  (try simp only [List.append_eq, List.cons_append, List.nil_append])
  refine wp_region_noPanic ?_
  refine wp_region_held_drew (S := fun w' => w'.cell? ⟨bn, 0, none⟩ = some (.slice (some ⟨zb, 0, none⟩) 2 2) ∧ w'.cell? ⟨bq, 0, none⟩ = some (.int .i64 2) ∧ w'.cell? ⟨bq, 1, none⟩ = some (.string ⟨#[]⟩) ∧ w'.cell? ⟨bq, 2, none⟩ = some (.int .i64 1)) (by kernel_rfl) ?_ (fun hHeld => ?_)
  · exact (Kq (Below.drew (Below.refl _ _))).out
  refine wpAnyH_take1 (i := 0) (oi := _) (v := ?_) (by kernel_rfl) rfl (by kernel_rfl) (fun _ _ _ h => h) (Or.inl ⟨by rfl, ?_⟩) (by assumption) ?_
  rotate_left 1
  · intro w hSw; (try dsimp only at hSw); go_simp; (with_reducible rfl)
  (try simp only [Act.put, List.getElem_toArray, List.getElem_cons_zero, List.setIfInBounds_toArray, List.set_cons_zero, List.set_cons_succ])
  refine wpAnyH_take1 (i := 1) (oi := _) (v := ?_) (by kernel_rfl) rfl (by kernel_rfl) (fun _ _ _ h => h) (Or.inl ⟨by rfl, ?_⟩) (by assumption) ?_
  rotate_left 1
  · intro w hSw; (try dsimp only at hSw); go_simp; (with_reducible rfl)
  (try simp only [Act.put, List.getElem_toArray, List.getElem_cons_zero, List.getElem_cons_succ, List.setIfInBounds_toArray, List.set_cons_zero, List.set_cons_succ])
  refine wpAnyH_take1 (i := 2) (oi := _) (v := ?_) (by kernel_rfl) rfl (by kernel_rfl) (fun _ _ _ h => h) (Or.inl ⟨by rfl, ?_⟩) (by assumption) ?_
  rotate_left 1
  · intro w hSw; (try dsimp only at hSw); go_simp; (with_reducible rfl)
  (try simp only [Act.put, List.getElem_toArray, List.getElem_cons_zero, List.getElem_cons_succ, List.setIfInBounds_toArray, List.set_cons_zero, List.set_cons_succ])
  refine wpAnyH_one (i := 3) (by kernel_rfl) rfl (by rfl) fun K hK => ?_
  go_simp
  refine (oneL_spec (nm := ⟨#[113]⟩) (c := nC) (by decide) nC_ok).mono ?_
  rintro e y3 ⟨v3, rfl, hy3, ht3⟩
  have HY3 := below_step hy3 (Seq.way : Below W3.heap.size W3 _)
  have zy3 := HY3.size
  (try dsimp only)
  clear hHeld
  refine hK.out _ _ (Kq HY3).out fun hHeld => ?_
  clear hK K
  (try simp only [Act.put, List.getElem_toArray, List.getElem_cons_zero, List.getElem_cons_succ, List.setIfInBounds_toArray, List.set_cons_zero, List.set_cons_succ])
  have H3 := Lib.hid ht3.any
  have HQ3 := Lib.hid (show Seq cellE (fun b => b ≠ zb) y3 v3 qT from ht3.mono (fun b hb _ e => by have h1 := Hs2.out; have h2 : W3.heap.size ≤ b := hb; omega) (fun _ _ _ => rfl))
  obtain ⟨a3, c3, hv3⟩ := ht3.shape
  rw [show (oneT ⟨#[113]⟩ nC).length = 2 from rfl] at hv3
  subst hv3
  clear ht3
  refine wpAnyH_one (i := 4) (by kernel_rfl) rfl (by rfl) fun K hK => ?_
  go_simp
  (try dsimp only)
  clear hHeld
  refine hK.out _ _ (Kq (below_step Seq.way HY3)).out fun hHeld => ?_
  clear hK K
  (try simp only [Act.put, List.getElem_toArray, List.getElem_cons_zero, List.getElem_cons_succ, List.setIfInBounds_toArray, List.set_cons_zero, List.set_cons_succ])
  refine wpAnyH_take1 (i := 5) (oi := _) (v := ?_) (by kernel_rfl) rfl (by kernel_rfl) (fun _ _ _ h => h) (Or.inl ⟨by rfl, ?_⟩) (by assumption) ?_
  rotate_left 1
  · intro w hSw; (try dsimp only at hSw); go_simp; (with_reducible rfl)
  (try simp only [Act.put, List.getElem_toArray, List.getElem_cons_zero, List.getElem_cons_succ, List.setIfInBounds_toArray, List.set_cons_zero, List.set_cons_succ])
  refine wpAnyH_take1 (i := 6) (oi := _) (v := ?_) (by kernel_rfl) rfl (by kernel_rfl) (fun _ _ _ h => h) (Or.inl ⟨by rfl, ?_⟩) (by assumption) ?_
  rotate_left 1
  · intro w hSw; (try dsimp only at hSw); go_simp; (with_reducible rfl)
  (try simp only [Act.put, List.getElem_toArray, List.getElem_cons_zero, List.getElem_cons_succ, List.setIfInBounds_toArray, List.set_cons_zero, List.set_cons_succ])
  obtain ⟨Y4, hY4⟩ : ∃ Y, Y = y3.alloc (.cells #[.slice a3 2 c3] 39) := ⟨_, rfl⟩
  have HY4 := Lib.hid (show Below W3.heap.size W3 Y4 by rw [hY4]; exact below_step Seq.way HY3)
  have hR4 := Lib.hid (show Row 39 Y4 y3.heap.size [.slice a3 2 c3] by rw [hY4]; exact Row.new y3 [_] _ rfl)
  have H3b := Lib.hid (show Seq cellE (fun _ => True) Y4 (.slice a3 2 c3) qT from H3.out.at (by rw [hY4]; exact Seq.way))
  obtain ⟨g4, hg4⟩ : ∃ g, g = y3.heap.size := ⟨_, rfl⟩
  rw [← hg4] at hR4
  rw [← hY4, ← hg4]
  have hs2 := Hs2.out
  have hz3 : W3.heap.size ≤ g4 := by omega
  have hB24 := Lib.hid (show Below w2.heap.size w2 Y4 from below_step (below_step HY4.out HBW3.out) HBW2.out)
  have hRz := Lib.hid (Row.below Q.out.2.1 hB24.out hs2.1)
  have z0c := hRz.out.cell (j := 3) (by simp)
  have z0f := hRz.out.frozen 3
  have z0l := hRz.out.lt
  simp only [List.getElem_cons_zero, List.getElem_cons_succ] at z0c
  obtain ⟨Y, hY⟩ : ∃ Y, Y = Y4.setCell ⟨zb, 3, none⟩ (.slice (some ⟨g4, 0, none⟩) 1 1) := ⟨_, rfl⟩
  have hYb := Lib.hid (show ∀ b, b ≠ zb → Y.heap[b]? = Y4.heap[b]? from fun b hb => by rw [hY, Below.heap_setCell _ _ _ _ hb])
  have hRzY := Lib.hid (show Row 43 Y zb [.slice z0 2 s0, .slice none 0 0, .slice z1 2 s1, .slice (some ⟨g4, 0, none⟩) 1 1] by rw [hY]; exact hRz.out.set 3 _)
  have hBY := Lib.hid (show Below W1.heap.size W1 Y by rw [hY]; exact (below_step hB24.out B2.out).setCell hs2.2.1 _)
  have HYY := Lib.hid hY
  have hbn2 := Lib.hid (show bn ≠ zb ∧ bq ≠ zb ∧ g4 ≠ zb from ⟨by omega, by omega, by omega⟩)
  have hgl4 := hR4.out.lt
  have RN := Lib.hid (show RowA 26 Y bn [.slice (some ⟨zb, 0, none⟩) 2 2, .slice none 0 0, .slice (some ⟨zl, 0, none⟩) 1 1] from (HRW2.out.at (below_step HY4.out HBW3.out)).row.at (hYb.out bn hbn2.out.1))
  have RC := Lib.hid (show RowA 38 Y bq [.int .i64 2, .string ⟨#[]⟩, .int .i64 1] from (HRW3.out.at HY4.out).row.at (hYb.out bq hbn2.out.2.1))
  have hRg := Lib.hid (show Row 39 Y g4 [.slice a3 2 c3] from hR4.out.at (hYb.out g4 hbn2.out.2.2))
  have q3 := Lib.hid (Q.out.2.2.1.at hB24.out)
  have q4 := Lib.hid (Q.out.2.2.2.1.at hB24.out)
  have q5 := Lib.hid (Q.out.2.2.2.2.at hB24.out)
  have H3c := Lib.hid (show Seq cellE (fun b => b ≠ zb) Y4 (.slice a3 2 c3) qT from HQ3.out.at (by rw [hY4]; exact Seq.way))
  have HN := Lib.hid (show ResV (fun _ => True) Y (.agg #[.slice (some ⟨zb, 0, none⟩) 2 2, .slice none 0 0, .slice (some ⟨zl, 0, none⟩) 1 1]) nowR from ResV.mk (r := nowR)
    (tabs2 hRzY.out trivial (q3.out.mono (fun _ _ _ => trivial) (fun b hb _ => hYb.out b hb.1)) (Seq.nil _ _ _) (q4.out.mono (fun _ _ _ => trivial) (fun b hb _ => hYb.out b hb.1)) (rowT1 hRg.out (H3c.out.mono (fun _ _ _ => trivial) fun b hb _ => hYb.out b hb)))
    (q5.out.mono (fun _ _ _ => trivial) (fun b hb _ => hYb.out b hb.1)))
  have HR := Lib.hid (show ResV (fun _ => True) Y (.agg #[.slice (some ⟨xb, 0, none⟩) 2 2, .slice none 0 0, .slice (some ⟨xl, 0, none⟩) 1 1]) twoR from HR1.out.mono (fun _ _ _ => trivial) fun b hb _ => (hBY.out.block b (Nat.lt_of_lt_of_le hb HBW1.out.size)).trans (HBW1.out.block b hb))
  have hSY := Lib.hid (show Y.cell? ⟨bn, 0, none⟩ = some (.slice (some ⟨zb, 0, none⟩) 2 2) ∧ Y.cell? ⟨bq, 0, none⟩ = some (.int .i64 2) ∧ Y.cell? ⟨bq, 1, none⟩ = some (.string ⟨#[]⟩) ∧ Y.cell? ⟨bq, 2, none⟩ = some (.int .i64 1) from ⟨RN.out.row.cell (j := 0) (by simp), RC.out.row.cell (j := 0) (by simp), RC.out.row.cell (j := 1) (by simp), RC.out.row.cell (j := 2) (by simp)⟩)
  clear hY hY4 hg4 hs2
  refine wpAnyH_one (i := 7) (by kernel_rfl) rfl (by rfl) fun K hK => ?_
  go_simp
  rw [← HYY.out]
  refine hK.out _ _ hSY.out fun hHeld => ?_
  clear hK K hHeld
  (try simp only [Act.put, List.getElem_toArray, List.getElem_cons_zero, List.getElem_cons_succ, List.setIfInBounds_toArray, List.set_cons_zero, List.set_cons_succ])
  refine wpAnyH_done (by kernel_rfl) ?_ _
  refine NoPanic.normal ?_
  have KY := fun {W' : World} (h : Below Y.heap.size Y W') => Lib.hid (show W'.cell? ⟨br, 0, none⟩ = some (.slice (some ⟨xb, 0, none⟩) 2 2) ∧ W'.cell? ⟨br, 1, none⟩ = some (.slice none 0 0) ∧ W'.cell? ⟨br, 2, none⟩ = some (.slice (some ⟨xl, 0, none⟩) 1 1) ∧ W'.cell? ⟨bn, 0, none⟩ = some (.slice (some ⟨zb, 0, none⟩) 2 2) ∧ W'.cell? ⟨bn, 1, none⟩ = some (.slice none 0 0) ∧ W'.cell? ⟨bn, 2, none⟩ = some (.slice (some ⟨zl, 0, none⟩) 1 1) ∧ W'.cell? ⟨bq, 0, none⟩ = some (.int .i64 2) ∧ W'.cell? ⟨bq, 1, none⟩ = some (.string ⟨#[]⟩) ∧ W'.cell? ⟨bq, 2, none⟩ = some (.int .i64 1) ∧ br < W'.heap.size ∧ bn < W'.heap.size ∧ bq < W'.heap.size from
    ⟨((K1 (below_step h hBY.out)).out).1, ((K1 (below_step h hBY.out)).out).2.1, ((K1 (below_step h hBY.out)).out).2.2.1, (RN.out.at h).row.cell (j := 0) (by simp), (RN.out.at h).row.cell (j := 1) (by simp), (RN.out.at h).row.cell (j := 2) (by simp), (RC.out.at h).row.cell (j := 0) (by simp), (RC.out.at h).row.cell (j := 1) (by simp), (RC.out.at h).row.cell (j := 2) (by simp), (K1 (below_step h hBY.out)).out.2.2.2, (RN.out.at h).row.lt, (RC.out.at h).row.lt⟩)
  clear z0c z0f z0l hgl4 d0 d1 d2 dl HY3 zy3 hz3
  obtain ⟨k0, k1, k2, k3, k4, k5, k6, k7, k8, k9, k10, k11⟩ := (KY (Below.refl _ Y)).out
  go_wp2_with fail
  refine (oneL_spec (nm := ⟨#[113]⟩) (c := nC) (by decide) nC_ok).mono ?_
  rintro e y5 ⟨v5, rfl, hy, hs⟩
  have B5 := Lib.hid (hy)
  have H5 := Lib.hid (show Seq cellE (fun _ => True) y5 v5 qT from hs.any)
  obtain ⟨a5, c5, hv⟩ := hs.shape
  rw [show (oneT ⟨#[113]⟩ nC).length = 2 from rfl] at hv
  subst hv
  clear hy hs k0 k1 k2 k3 k4 k5 k6 k7 k8 k9 k10 k11
  obtain ⟨k0, k1, k2, k3, k4, k5, k6, k7, k8, k9, k10, k11⟩ := (KY B5.out).out
  go_wp2_with fail
  obtain ⟨Z5, hZ⟩ : ∃ Z, Z = y5.alloc (.cells #[.slice a5 2 c5] 39) := ⟨_, rfl⟩
  have HZ5 := Lib.hid (show Below Y.heap.size Y Z5 by rw [hZ]; exact below_step Seq.way B5.out)
  have HL5 := Lib.hid (show Seq (seqE cellE) (fun _ => True) Z5 (.slice (some ⟨y5.heap.size, 0, none⟩) 1 1) [qT] by rw [hZ]; exact rowT1 (Row.new y5 [_] _ rfl) (H5.out.at Seq.way))
  obtain ⟨g5, hg⟩ : ∃ g, g = y5.heap.size := ⟨_, rfl⟩
  rw [← hg] at HL5
  rw [← hZ, ← hg]
  clear hZ hg k0 k1 k2 k3 k4 k5 k6 k7 k8 k9 k10 k11
  refine (oneL_spec (nm := ⟨#[112]⟩) (c := nC) (by decide) nC_ok).mono ?_
  rintro e y6 ⟨v6, rfl, hy, hs⟩
  have B6 := Lib.hid (below_step hy HZ5.out)
  have H6 := Lib.hid (show Seq cellE (fun _ => True) y6 v6 pT from hs.any)
  have HL5 := Lib.hid (HL5.out.at hy)
  obtain ⟨a6, c6, hv⟩ := hs.shape
  rw [show (oneT ⟨#[112]⟩ nC).length = 2 from rfl] at hv
  subst hv
  clear hy hs
  obtain ⟨k0, k1, k2, k3, k4, k5, k6, k7, k8, k9, k10, k11⟩ := (KY B6.out).out
  go_wp2_with fail
  obtain ⟨Z6, hZ⟩ : ∃ Z, Z = y6.alloc (.cells #[.slice a6 2 c6] 39) := ⟨_, rfl⟩
  have HZ6 := Lib.hid (show Below Y.heap.size Y Z6 by rw [hZ]; exact below_step Seq.way B6.out)
  have HL6 := Lib.hid (show Seq (seqE cellE) (fun _ => True) Z6 (.slice (some ⟨y6.heap.size, 0, none⟩) 1 1) [pT] by rw [hZ]; exact rowT1 (Row.new y6 [_] _ rfl) (H6.out.at Seq.way))
  have HL5 := Lib.hid (HL5.out.at (show Below y6.heap.size y6 Z6 by rw [hZ]; exact Seq.way))
  obtain ⟨g6, hg⟩ : ∃ g, g = y6.heap.size := ⟨_, rfl⟩
  rw [← hg] at HL6
  rw [← hZ, ← hg]
  clear hZ hg k0 k1 k2 k3 k4 k5 k6 k7 k8 k9 k10 k11
  refine (oneL_spec (nm := ⟨#[114]⟩) (c := nC) (by decide) nC_ok).mono ?_
  rintro e y7 ⟨v7, rfl, hy, hs⟩
  have B7 := Lib.hid (below_step hy HZ6.out)
  have H7 := Lib.hid (show Seq cellE (fun _ => True) y7 v7 rT from hs.any)
  have HL5 := Lib.hid (HL5.out.at hy)
  have HL6 := Lib.hid (HL6.out.at hy)
  obtain ⟨a7, c7, hv⟩ := hs.shape
  rw [show (oneT ⟨#[114]⟩ nC).length = 2 from rfl] at hv
  subst hv
  clear hy hs
  obtain ⟨k0, k1, k2, k3, k4, k5, k6, k7, k8, k9, k10, k11⟩ := (KY B7.out).out
  go_wp2_with fail
  obtain ⟨Z7, hZ7⟩ : ∃ Z, Z = y7.alloc (.cells #[.slice a7 2 c7] 39) := ⟨_, rfl⟩
  obtain ⟨Z, hZ⟩ : ∃ Z, Z = Z7.alloc (.cells #[.slice (some ⟨zb, 0, none⟩) 1 2, .slice none 0 0, .slice none 0 0] 26) := ⟨_, rfl⟩
  have h7Z := Lib.hid (show Below y7.heap.size y7 Z by rw [hZ, hZ7]; exact Seq.way)
  have HZ := Lib.hid (show Below Y.heap.size Y Z from below_step h7Z.out B7.out)
  have HL5 := Lib.hid (HL5.out.at h7Z.out)
  have HL6 := Lib.hid (HL6.out.at h7Z.out)
  have HL7 := Lib.hid (show Seq (seqE cellE) (fun _ => True) Z (.slice (some ⟨y7.heap.size, 0, none⟩) 1 1) [rT] from by
    have h : Seq (seqE cellE) (fun _ => True) Z7 (.slice (some ⟨y7.heap.size, 0, none⟩) 1 1) [rT] := by rw [hZ7]; exact rowT1 (Row.new y7 [_] _ rfl) (H7.out.at Seq.way)
    exact h.at (by rw [hZ]; exact Seq.way))
  have RL := Lib.hid (show RowA 26 Z (y7.heap.size + 1) [.slice (some ⟨zb, 0, none⟩) 1 2, .slice none 0 0, .slice none 0 0] by rw [hZ]; exact Row.new Z7 [_, _, _] _ (by rw [hZ7]; simp))
  have HRZ := Lib.hid (HR.out.at HZ.out)
  have HNZ := Lib.hid (HN.out.at HZ.out)
  have HLZ := Lib.hid (show ResV (fun _ => True) Z (.agg #[.slice (some ⟨zb, 0, none⟩) 1 2, .slice none 0 0, .slice none 0 0]) lessR from by
    obtain ⟨ta, tc, ia, il, ic, la, lc, he, h1, -⟩ := HNZ.out
    simp only [Value.agg.injEq, Array.mk.injEq, List.cons.injEq, Value.slice.injEq, and_true] at he
    obtain ⟨⟨rfl, -, rfl⟩, -⟩ := he
    exact ResV.mk (r := lessR) (Seq.take (xs := nowR.tabs) (j := 1) h1 (by decide)) (Seq.nil _ _ _))
  rw [← hZ7, ← hZ]
  obtain ⟨bl, hbl⟩ : ∃ b, b = y7.heap.size + 1 := ⟨_, rfl⟩
  obtain ⟨g7, hg7⟩ : ∃ b, b = y7.heap.size := ⟨_, rfl⟩
  simp only [← hbl] at RL ⊢
  simp only [← hg7] at HL7 ⊢
  have BZ := Lib.hid (show Below w.heap.size w Z from below_step HZ.out (below_step hBY.out (below_step HBW1.out B1.out)))
  clear hZ hZ7 hbl hg7 k0 k1 k2 k3 k4 k5 k6 k7 k8 k9 k10 k11
  have KZ := fun {W' : World} (h : Below Z.heap.size Z W') => Lib.hid (show W'.cell? ⟨br, 0, none⟩ = some (.slice (some ⟨xb, 0, none⟩) 2 2) ∧ W'.cell? ⟨br, 1, none⟩ = some (.slice none 0 0) ∧ W'.cell? ⟨br, 2, none⟩ = some (.slice (some ⟨xl, 0, none⟩) 1 1) ∧ W'.cell? ⟨bn, 0, none⟩ = some (.slice (some ⟨zb, 0, none⟩) 2 2) ∧ W'.cell? ⟨bn, 1, none⟩ = some (.slice none 0 0) ∧ W'.cell? ⟨bn, 2, none⟩ = some (.slice (some ⟨zl, 0, none⟩) 1 1) ∧ W'.cell? ⟨bl, 0, none⟩ = some (.slice (some ⟨zb, 0, none⟩) 1 2) ∧ W'.cell? ⟨bl, 1, none⟩ = some (.slice none 0 0) ∧ W'.cell? ⟨bl, 2, none⟩ = some (.slice none 0 0) ∧ br < W'.heap.size ∧ bn < W'.heap.size ∧ bl < W'.heap.size from
    ⟨((K1 (below_step (below_step h HZ.out) hBY.out)).out).1, ((K1 (below_step (below_step h HZ.out) hBY.out)).out).2.1, ((K1 (below_step (below_step h HZ.out) hBY.out)).out).2.2.1, (RN.out.at (below_step h HZ.out)).row.cell (j := 0) (by simp), (RN.out.at (below_step h HZ.out)).row.cell (j := 1) (by simp), (RN.out.at (below_step h HZ.out)).row.cell (j := 2) (by simp), (RL.out.at h).row.cell (j := 0) (by simp), (RL.out.at h).row.cell (j := 1) (by simp), (RL.out.at h).row.cell (j := 2) (by simp), (K1 (below_step (below_step h HZ.out) hBY.out)).out.2.2.2, (RN.out.at (below_step h HZ.out)).row.lt, (RL.out.at h).row.lt⟩)
  have C0 := Lib.hid (Below.refl Z.heap.size Z)
  refine (TouchedP_spec (HRZ.out.at (below_step Seq.way C0.out)) (HL5.out.at (below_step Seq.way C0.out)) twoR_ok.tl twoR_right (chg_one hd_rq)).mono ?_
  rintro e u1 ⟨v, rfl, hb, hs⟩
  rw [hd_e1] at hs
  have HS := Lib.hid (show Seq (intE) (fun _ => True) u1 v ([1] : List Int) from hs.any)
  obtain ⟨m1, n1, hv⟩ := HS.out.shape
  rw [show (([1] : List Int)).length = 1 from rfl] at hv
  subst hv
  have C1 := Lib.hid (below_step hb (below_step Seq.way C0.out))
  clear hb hs
  obtain ⟨k0, k1, k2, k3, k4, k5, k6, k7, k8, k9, k10, k11⟩ := (KZ C1.out).out
  go_wp2_with fail
  clear k0 k1 k2 k3 k4 k5 k6 k7 k8 k9 k10 k11
  refine (IntsR14_spec (HS.out.at Seq.way) (litI (T := 3) (xs := [1]) (Row.new u1 [_] _ rfl) rfl (by decide) (by decide))).mono ?_
  rw [decide_eq_true rfl]
  rintro e u2 ⟨rfl, hq⟩
  have C2 := Lib.hid (below_step (below_step hq.belowS Seq.way) C1.out)
  clear hq HS
  obtain ⟨k0, k1, k2, k3, k4, k5, k6, k7, k8, k9, k10, k11⟩ := (KZ C2.out).out
  go_wp2_with fail
  clear k0 k1 k2 k3 k4 k5 k6 k7 k8 k9 k10 k11
  refine (DirtyP_spec (HRZ.out.at (below_step Seq.way C2.out)) (HL5.out.at (below_step Seq.way C2.out)) twoR_ok twoR_right (chg_one hd_rq)).mono ?_
  rintro e u3 ⟨v, rfl, hb, hs⟩
  rw [hd_e2] at hs
  have HS := Lib.hid (show Seq (intE) (fun _ => True) u3 v ([0, 1] : List Int) from hs.any)
  obtain ⟨m3, n3, hv⟩ := HS.out.shape
  rw [show (([0, 1] : List Int)).length = 2 from rfl] at hv
  subst hv
  have C3 := Lib.hid (below_step hb (below_step Seq.way C2.out))
  clear hb hs
  obtain ⟨k0, k1, k2, k3, k4, k5, k6, k7, k8, k9, k10, k11⟩ := (KZ C3.out).out
  go_wp2_with fail
  clear k0 k1 k2 k3 k4 k5 k6 k7 k8 k9 k10 k11
  refine (IntsR14_spec (HS.out.at Seq.way) (litI (T := 3) (xs := [0, 1]) (Row.new u3 [_, _] _ rfl) rfl (by decide) (by decide))).mono ?_
  rw [decide_eq_true rfl]
  rintro e u4 ⟨rfl, hq⟩
  have C4 := Lib.hid (below_step (below_step hq.belowS Seq.way) C3.out)
  clear hq HS
  obtain ⟨k0, k1, k2, k3, k4, k5, k6, k7, k8, k9, k10, k11⟩ := (KZ C4.out).out
  go_wp2_with fail
  clear k0 k1 k2 k3 k4 k5 k6 k7 k8 k9 k10 k11
  refine (DirtyP_spec (HRZ.out.at (below_step Seq.way C4.out)) (HL6.out.at (below_step Seq.way C4.out)) twoR_ok twoR_right (chg_one hd_rp)).mono ?_
  rintro e u5 ⟨v, rfl, hb, hs⟩
  rw [hd_e3] at hs
  have HS := Lib.hid (show Seq (intE) (fun _ => True) u5 v ([0] : List Int) from hs.any)
  obtain ⟨m5, n5, hv⟩ := HS.out.shape
  rw [show (([0] : List Int)).length = 1 from rfl] at hv
  subst hv
  have C5 := Lib.hid (below_step hb (below_step Seq.way C4.out))
  clear hb hs
  obtain ⟨k0, k1, k2, k3, k4, k5, k6, k7, k8, k9, k10, k11⟩ := (KZ C5.out).out
  go_wp2_with fail
  clear k0 k1 k2 k3 k4 k5 k6 k7 k8 k9 k10 k11
  refine (IntsR14_spec (HS.out.at Seq.way) (litI (T := 3) (xs := [0]) (Row.new u5 [_] _ rfl) rfl (by decide) (by decide))).mono ?_
  rw [decide_eq_true rfl]
  rintro e u6 ⟨rfl, hq⟩
  have C6 := Lib.hid (below_step (below_step hq.belowS Seq.way) C5.out)
  clear hq HS
  obtain ⟨k0, k1, k2, k3, k4, k5, k6, k7, k8, k9, k10, k11⟩ := (KZ C6.out).out
  go_wp2_with fail
  clear k0 k1 k2 k3 k4 k5 k6 k7 k8 k9 k10 k11
  refine (CompsP_spec (HRZ.out.at (below_step Seq.way C6.out)) twoR_ok).mono ?_
  rintro e u7 ⟨v, rfl, hb, hs⟩
  rw [hd_e4] at hs
  have HS := Lib.hid (show Seq (seqE intE) (fun _ => True) u7 v ([[1], [0]] : List (List Int)) from hs.any)
  obtain ⟨m7, n7, hv⟩ := HS.out.shape
  rw [show (([[1], [0]] : List (List Int))).length = 2 from rfl] at hv
  subst hv
  have C7 := Lib.hid (below_step hb (below_step Seq.way C6.out))
  clear hb hs
  obtain ⟨k0, k1, k2, k3, k4, k5, k6, k7, k8, k9, k10, k11⟩ := (KZ C7.out).out
  go_wp2_with fail
  clear k0 k1 k2 k3 k4 k5 k6 k7 k8 k9 k10 k11
  refine (SameR23_spec (HS.out.at Seq.way) (rowsI2 (T := 31) (t0 := [1]) (t1 := [0]) (Row.new ((u7.alloc (.cells #[.int .i64 1] 3)).alloc (.cells #[.int .i64 0] 3)) [_, _] _ (by simp))
    ((litI (T := 3) (xs := [1]) ((Row.new u7 [_] _ rfl)) rfl (by decide) (by decide)).at Seq.way)
    ((litI (T := 3) (xs := [0]) ((Row.new (u7.alloc (.cells #[.int .i64 1] 3)) [_] _ (by simp))) rfl (by decide) (by decide)).at Seq.way))).mono ?_
  rw [decide_eq_true rfl]
  rintro e u8 ⟨rfl, hq⟩
  have C8 := Lib.hid (below_step (below_step hq.belowS Seq.way) C7.out)
  clear hq HS
  obtain ⟨k0, k1, k2, k3, k4, k5, k6, k7, k8, k9, k10, k11⟩ := (KZ C8.out).out
  go_wp2_with fail
  clear k0 k1 k2 k3 k4 k5 k6 k7 k8 k9 k10 k11
  refine (AgainP_spec (HRZ.out.at (below_step Seq.way C8.out)) (HNZ.out.at (below_step Seq.way C8.out)) (HL5.out.at (below_step Seq.way C8.out)) twoR_ok twoR_right (chg_one hd_rq)).mono ?_
  rintro e u9 ⟨v, rfl, hb, hs⟩
  rw [hd_e5] at hs
  have HS := Lib.hid (show Seq (intE) (fun _ => True) u9 v ([0, 1] : List Int) from hs.any)
  obtain ⟨m9, n9, hv⟩ := HS.out.shape
  rw [show (([0, 1] : List Int)).length = 2 from rfl] at hv
  subst hv
  have C9 := Lib.hid (below_step hb (below_step Seq.way C8.out))
  clear hb hs
  obtain ⟨k0, k1, k2, k3, k4, k5, k6, k7, k8, k9, k10, k11⟩ := (KZ C9.out).out
  go_wp2_with fail
  clear k0 k1 k2 k3 k4 k5 k6 k7 k8 k9 k10 k11
  refine (IntsR14_spec (HS.out.at Seq.way) (litI (T := 3) (xs := [0, 1]) (Row.new u9 [_, _] _ rfl) rfl (by decide) (by decide))).mono ?_
  rw [decide_eq_true rfl]
  rintro e u10 ⟨rfl, hq⟩
  have C10 := Lib.hid (below_step (below_step hq.belowS Seq.way) C9.out)
  clear hq HS
  obtain ⟨k0, k1, k2, k3, k4, k5, k6, k7, k8, k9, k10, k11⟩ := (KZ C10.out).out
  go_wp2_with fail
  clear k0 k1 k2 k3 k4 k5 k6 k7 k8 k9 k10 k11
  refine (AgainP_spec (HRZ.out.at (below_step Seq.way C10.out)) (HRZ.out.at (below_step Seq.way C10.out)) (HL5.out.at (below_step Seq.way C10.out)) twoR_ok twoR_right (chg_one hd_rq)).mono ?_
  rintro e u11 ⟨v, rfl, hb, hs⟩
  rw [hd_e6] at hs
  have HS := Lib.hid (show Seq (intE) (fun _ => True) u11 v ([1] : List Int) from hs.any)
  obtain ⟨m11, n11, hv⟩ := HS.out.shape
  rw [show (([1] : List Int)).length = 1 from rfl] at hv
  subst hv
  have C11 := Lib.hid (below_step hb (below_step Seq.way C10.out))
  clear hb hs
  obtain ⟨k0, k1, k2, k3, k4, k5, k6, k7, k8, k9, k10, k11⟩ := (KZ C11.out).out
  go_wp2_with fail
  clear k0 k1 k2 k3 k4 k5 k6 k7 k8 k9 k10 k11
  refine (IntsR14_spec (HS.out.at Seq.way) (litI (T := 3) (xs := [1]) (Row.new u11 [_] _ rfl) rfl (by decide) (by decide))).mono ?_
  rw [decide_eq_true rfl]
  rintro e u12 ⟨rfl, hq⟩
  have C12 := Lib.hid (below_step (below_step hq.belowS Seq.way) C11.out)
  clear hq HS
  obtain ⟨k0, k1, k2, k3, k4, k5, k6, k7, k8, k9, k10, k11⟩ := (KZ C12.out).out
  go_wp2_with fail
  clear k0 k1 k2 k3 k4 k5 k6 k7 k8 k9 k10 k11
  refine (AgainP_spec (HRZ.out.at (below_step Seq.way C12.out)) (HNZ.out.at (below_step Seq.way C12.out)) (Seq.nil _ (fun _ => True) _) twoR_ok twoR_right chg_none).mono ?_
  rintro e u13 ⟨v, rfl, hb, hs⟩
  rw [hd_e7] at hs
  have HS := Lib.hid (show Seq (intE) (fun _ => True) u13 v ([0] : List Int) from hs.any)
  obtain ⟨m13, n13, hv⟩ := HS.out.shape
  rw [show (([0] : List Int)).length = 1 from rfl] at hv
  subst hv
  have C13 := Lib.hid (below_step hb (below_step Seq.way C12.out))
  clear hb hs
  obtain ⟨k0, k1, k2, k3, k4, k5, k6, k7, k8, k9, k10, k11⟩ := (KZ C13.out).out
  go_wp2_with fail
  clear k0 k1 k2 k3 k4 k5 k6 k7 k8 k9 k10 k11
  refine (IntsR14_spec (HS.out.at Seq.way) (litI (T := 3) (xs := [0]) (Row.new u13 [_] _ rfl) rfl (by decide) (by decide))).mono ?_
  rw [decide_eq_true rfl]
  rintro e u14 ⟨rfl, hq⟩
  have C14 := Lib.hid (below_step (below_step hq.belowS Seq.way) C13.out)
  clear hq HS
  obtain ⟨k0, k1, k2, k3, k4, k5, k6, k7, k8, k9, k10, k11⟩ := (KZ C14.out).out
  go_wp2_with fail
  clear k0 k1 k2 k3 k4 k5 k6 k7 k8 k9 k10 k11
  refine (AgainP_spec (HRZ.out.at (below_step Seq.way C14.out)) (HLZ.out.at (below_step Seq.way C14.out)) (HL7.out.at (below_step Seq.way C14.out)) twoR_ok twoR_right (chg_one hd_rr)).mono ?_
  rintro e u15 ⟨v, rfl, hb, hs⟩
  rw [hd_e8] at hs
  have HS := Lib.hid (show Seq (intE) (fun _ => True) u15 v ([0] : List Int) from hs.any)
  obtain ⟨m15, n15, hv⟩ := HS.out.shape
  rw [show (([0] : List Int)).length = 1 from rfl] at hv
  subst hv
  have C15 := Lib.hid (below_step hb (below_step Seq.way C14.out))
  clear hb hs
  obtain ⟨k0, k1, k2, k3, k4, k5, k6, k7, k8, k9, k10, k11⟩ := (KZ C15.out).out
  go_wp2_with fail
  clear k0 k1 k2 k3 k4 k5 k6 k7 k8 k9 k10 k11
  refine (IntsR14_spec (HS.out.at Seq.way) (litI (T := 3) (xs := [0]) (Row.new u15 [_] _ rfl) rfl (by decide) (by decide))).mono ?_
  rw [decide_eq_true rfl]
  rintro e u16 ⟨rfl, hq⟩
  have C16 := Lib.hid (below_step (below_step hq.belowS Seq.way) C15.out)
  clear hq HS
  obtain ⟨k0, k1, k2, k3, k4, k5, k6, k7, k8, k9, k10, k11⟩ := (KZ C16.out).out
  go_wp2_with fail
  clear k0 k1 k2 k3 k4 k5 k6 k7 k8 k9 k10 k11
  refine (AgainP_spec (HRZ.out.at (below_step Seq.way C16.out)) (HRZ.out.at (below_step Seq.way C16.out)) (HL7.out.at (below_step Seq.way C16.out)) twoR_ok twoR_right (chg_one hd_rr)).mono ?_
  rintro e u17 ⟨v, rfl, hb, hs⟩
  rw [hd_e9] at hs
  have HS := Lib.hid (show Seq (intE) (fun _ => True) u17 v ([] : List Int) from hs.any)
  obtain ⟨m17, n17, hv⟩ := HS.out.shape
  rw [show (([] : List Int)).length = 0 from rfl] at hv
  subst hv
  have C17 := Lib.hid (below_step hb (below_step Seq.way C16.out))
  clear hb hs
  obtain ⟨k0, k1, k2, k3, k4, k5, k6, k7, k8, k9, k10, k11⟩ := (KZ C17.out).out
  go_wp2_with fail
  clear k0 k1 k2 k3 k4 k5 k6 k7 k8 k9 k10 k11
  refine (TouchedP_spec (HRZ.out.at (below_step Seq.way C17.out)) (HL7.out.at (below_step Seq.way C17.out)) twoR_ok.tl twoR_right (chg_one hd_rr)).mono ?_
  rintro e u18 ⟨v, rfl, hb, hs⟩
  rw [hd_e10] at hs
  have HS := Lib.hid (show Seq (intE) (fun _ => True) u18 v ([] : List Int) from hs.any)
  obtain ⟨m18, n18, hv⟩ := HS.out.shape
  rw [show (([] : List Int)).length = 0 from rfl] at hv
  subst hv
  have C18 := Lib.hid (below_step hb (below_step Seq.way C17.out))
  clear hb hs
  obtain ⟨k0, k1, k2, k3, k4, k5, k6, k7, k8, k9, k10, k11⟩ := (KZ C18.out).out
  go_wp2_with fail
  clear k0 k1 k2 k3 k4 k5 k6 k7 k8 k9 k10 k11
  refine (CompsP_spec (r := noneR) (ResV.mk (S := fun _ => True) (Seq.nil _ _ _) (Seq.nil _ _ _)) noneR_ok).mono ?_
  rintro e u19 ⟨v, rfl, hb, hs⟩
  rw [hd_e11] at hs
  have HS := Lib.hid (show Seq (seqE intE) (fun _ => True) u19 v ([] : List (List Int)) from hs.any)
  obtain ⟨m19, n19, hv⟩ := HS.out.shape
  rw [show (([] : List (List Int))).length = 0 from rfl] at hv
  subst hv
  have C19 := Lib.hid (below_step hb (below_step Seq.way C18.out))
  clear hb hs
  obtain ⟨k0, k1, k2, k3, k4, k5, k6, k7, k8, k9, k10, k11⟩ := (KZ C19.out).out
  go_wp2_with fail
  clear k0 k1 k2 k3 k4 k5 k6 k7 k8 k9 k10 k11
  go_ret
  exact ⟨rfl, below_step C19.out BZ.out⟩
end Go.Proofs.Ytbcambjonjhopaa
