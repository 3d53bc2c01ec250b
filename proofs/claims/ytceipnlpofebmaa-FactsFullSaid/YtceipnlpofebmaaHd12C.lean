/-
  Layer 12: head.
-/
import Derived.Test.YtceipnlpofebmaaHd12B
namespace Go.Proofs.Ytceipnlpofebmaa
open Go Go.RowKit

theorem hd_cw {c : Cell} (h1 : -9223372036854775808 ≤ c.kind ∧ c.kind ≤ 9223372036854775807) (h2 : -9223372036854775808 ≤ c.n ∧ c.n ≤ 9223372036854775807) (h3 : c.name.size ≤ 140737488355328) : CellW2 c := ⟨h1, h2, h3⟩
theorem hd_cA : CellW2 hA := hd_cw (by decide) (by decide) (by decide)
theorem hd_cB : CellW2 hB := hd_cw (by decide) (by decide) (by decide)
theorem hd_cV : CellW2 hV := hd_cw (by decide) (by decide) (by decide)
theorem hd_cI : CellW2 hI := hd_cw (by decide) (by decide) (by decide)
theorem hd_cw1 : ∀ c ∈ [hA], CellW2 c := by simp [hd_cA]
theorem hd_cw2 : ∀ c ∈ [hB], CellW2 c := by simp [hd_cB]
theorem hd_cw3 : ∀ c ∈ [hA, hA], CellW2 c := by simp [hd_cA]
theorem hd_cw4 : ∀ c ∈ [hV], CellW2 c := by simp [hd_cV]
theorem hd_cw5 : ∀ c ∈ [hA, hB], CellW2 c := by simp [hd_cA, hd_cB]
theorem hd_cw6 : ∀ c ∈ [hI], CellW2 c := by simp [hd_cI]
theorem rows2 {T : TypeId} {w : World} {B : Nat} {v0 v1 : Value} {t0 t1 : List Cell} (h : Row T w B [v0, v1]) (h0 : Seq cellE (fun _ => True) w v0 t0) (h1 : Seq cellE (fun _ => True) w v1 t1) : Seq (seqE cellE) (fun _ => True) w (.slice (some ⟨B, 0, none⟩) 2 2) [t0, t1] :=
  seq_rows h rfl (by simp) fun k t hk => by
    match k, hk with
    | 0, hk => simp at hk; subst hk; exact ⟨_, rfl, h0⟩
    | 1, hk => simp at hk; subst hk; exact ⟨_, rfl, h1⟩
theorem rows3 {T : TypeId} {w : World} {B : Nat} {v0 v1 v2 : Value} {t0 t1 t2 : List Cell} (h : Row T w B [v0, v1, v2]) (h0 : Seq cellE (fun _ => True) w v0 t0) (h1 : Seq cellE (fun _ => True) w v1 t1) (h2 : Seq cellE (fun _ => True) w v2 t2) : Seq (seqE cellE) (fun _ => True) w (.slice (some ⟨B, 0, none⟩) 3 3) [t0, t1, t2] :=
  seq_rows h rfl (by simp) fun k t hk => by
    match k, hk with
    | 0, hk => simp at hk; subst hk; exact ⟨_, rfl, h0⟩
    | 1, hk => simp at hk; subst hk; exact ⟨_, rfl, h1⟩
    | 2, hk => simp at hk; subst hk; exact ⟨_, rfl, h2⟩
theorem hd_cw7 : ∀ c ∈ [hV, hV], CellW2 c := by simp [hd_cV]

set_option maxHeartbeats 16000000 in
set_option maxRecDepth 100000 in
theorem head_spec {w : World} : Calls Try.prog 5 #[] w (RetV (.bool true) w) := by
  have HB0 := Lib.hid (Below.refl w.heap.size w)
  obtain ⟨W0, hW0⟩ : ∃ W, W = ((w.alloc (.cells #[.int .i64 3, .string ⟨#[97]⟩, .int .i64 0] 35)).alloc (.cells #[.int .i64 3, .string ⟨#[98]⟩, .int .i64 0] 35)).alloc (.cells #[.int .i64 1, .string ⟨#[]⟩, .int .i64 0] 35) := ⟨_, rfl⟩
  obtain ⟨bA, hbA⟩ : ∃ b, b = w.heap.size := ⟨_, rfl⟩
  have hs0 : W0.heap.size = bA + 3 := by rw [hW0, hbA]; simp
  have R0 := Lib.hid (show RowA 35 W0 bA [.int .i64 3, .string ⟨#[97]⟩, .int .i64 0] by rw [hW0, hbA]; exact ((Row.new w [_, _, _] _ rfl).alloc _).alloc _)
  have R1 := Lib.hid (show RowA 35 W0 (bA + 1) [.int .i64 3, .string ⟨#[98]⟩, .int .i64 0] by rw [hW0, hbA]; exact (Row.new (w.alloc _) [_, _, _] _ (by simp)).alloc _)
  have R2 := Lib.hid (show RowA 35 W0 (bA + 1 + 1) [.int .i64 1, .string ⟨#[]⟩, .int .i64 0] by rw [hW0, hbA]; exact Row.new ((w.alloc _).alloc _) [_, _, _] _ (by simp))
  have HB1 := Lib.hid (show Below w.heap.size w W0 by rw [hW0]; exact Seq.way)
  have HW0 := Lib.hid hW0
  have hbAx := Lib.hid hbA
  clear hW0
  go_enter Try.func5, Try.ntmps5
  go_upto_region 2 with fail
  rw [← HW0.out]
  rw [← hbA]
  clear hbA
  have KC := fun {y : World} (h : Below W0.heap.size W0 y) => Lib.hid (show y.cell? ⟨bA, 0, none⟩ = some (.int .i64 3) ∧ y.cell? ⟨bA, 1, none⟩ = some (.string ⟨#[97]⟩) ∧ y.cell? ⟨bA, 2, none⟩ = some (.int .i64 0) ∧ y.cell? ⟨bA + 1, 0, none⟩ = some (.int .i64 3) ∧ y.cell? ⟨bA + 1, 1, none⟩ = some (.string ⟨#[98]⟩) ∧ y.cell? ⟨bA + 1, 2, none⟩ = some (.int .i64 0) from
    ⟨(R0.out.at h).row.cell (j := 0) (by simp), (R0.out.at h).row.cell (j := 1) (by simp), (R0.out.at h).row.cell (j := 2) (by simp), (R1.out.at h).row.cell (j := 0) (by simp), (R1.out.at h).row.cell (j := 1) (by simp), (R1.out.at h).row.cell (j := 2) (by simp)⟩)
  refine wp_region_noPanic ?_
  refine wp_region_held_drew (S := fun y => y.cell? ⟨bA, 0, none⟩ = some (.int .i64 3) ∧ y.cell? ⟨bA, 1, none⟩ = some (.string ⟨#[97]⟩) ∧ y.cell? ⟨bA, 2, none⟩ = some (.int .i64 0) ∧ y.cell? ⟨bA + 1, 0, none⟩ = some (.int .i64 3) ∧ y.cell? ⟨bA + 1, 1, none⟩ = some (.string ⟨#[98]⟩) ∧ y.cell? ⟨bA + 1, 2, none⟩ = some (.int .i64 0)) (by kernel_rfl) (KC (Seq.way)).out (fun hHeld => ?_)
  refine wpAnyH_take1 (i := 0) (oi := _) (v := ?_) (by kernel_rfl) rfl (by kernel_rfl) (fun _ _ _ h => h) (Or.inl ⟨by rfl, ?_⟩) hHeld ?_
  rotate_left 1
  · intro y hSw; (try dsimp only at hSw); go_simp; (with_reducible rfl)
  (try simp only [Act.put, List.getElem_toArray, List.getElem_cons_zero, List.setIfInBounds_toArray, List.set_cons_zero, List.set_cons_succ])
  refine wpAnyH_take1 (i := 3) (oi := _) (v := ?_) (by kernel_rfl) rfl (by kernel_rfl) (fun _ _ _ h => h) (Or.inl ⟨by rfl, ?_⟩) hHeld ?_
  rotate_left 1
  · intro y hSw; (try dsimp only at hSw); go_simp; (with_reducible rfl)
  (try simp only [Act.put, List.getElem_toArray, List.getElem_cons_zero, List.getElem_cons_succ, List.setIfInBounds_toArray, List.set_cons_zero, List.set_cons_succ])
  refine wpAnyH_take1 (i := 6) (oi := _) (v := ?_) (by kernel_rfl) rfl (by kernel_rfl) (fun _ _ _ h => h) (Or.inl ⟨by rfl, ?_⟩) hHeld ?_
  rotate_left 1
  · intro y hSw; (try dsimp only at hSw); go_simp; (with_reducible rfl)
  (try simp only [Act.put, List.getElem_toArray, List.getElem_cons_zero, List.getElem_cons_succ, List.setIfInBounds_toArray, List.set_cons_zero, List.set_cons_succ])
  refine wpAnyH_take1 (i := 7) (oi := _) (v := ?_) (by kernel_rfl) rfl (by kernel_rfl) (fun _ _ _ h => h) (Or.inl ⟨by rfl, ?_⟩) hHeld ?_
  rotate_left 1
  · intro y hSw; (try dsimp only at hSw); go_simp; (with_reducible rfl)
  (try simp only [Act.put, List.getElem_toArray, List.getElem_cons_zero, List.getElem_cons_succ, List.setIfInBounds_toArray, List.set_cons_zero, List.set_cons_succ])
  obtain ⟨D0, hD0⟩ : ∃ D : Value → World → Prop, D = fun u w' => ∃ a c, u = .slice a 1 c ∧ Seq cellE (fun _ => True) w' (.slice a 1 c) [hA] := ⟨_, rfl⟩
  obtain ⟨D1, hD1⟩ : ∃ D : Value → World → Prop, D = fun u w' => ∃ a c, u = .slice a 2 c ∧ Seq cellE (fun _ => True) w' (.slice a 2 c) g0 := ⟨_, rfl⟩
  obtain ⟨D2, hD2⟩ : ∃ D : Value → World → Prop, D = fun u w' => ∃ a c, u = .slice a 1 c ∧ Seq cellE (fun _ => True) w' (.slice a 1 c) [hB] := ⟨_, rfl⟩
  obtain ⟨D3, hD3⟩ : ∃ D : Value → World → Prop, D = fun u w' => ∃ a c, u = .slice a 2 c ∧ Seq cellE (fun _ => True) w' (.slice a 2 c) g1 := ⟨_, rfl⟩
  obtain ⟨D4, hD4⟩ : ∃ D : Value → World → Prop, D = fun u w' => ∃ a c, u = .slice a 2 c ∧ Seq cellE (fun _ => True) w' (.slice a 2 c) [hA, hA] := ⟨_, rfl⟩
  obtain ⟨D5, hD5⟩ : ∃ D : Value → World → Prop, D = fun u w' => ∃ a c, u = .slice a 3 c ∧ Seq cellE (fun _ => True) w' (.slice a 3 c) g2 := ⟨_, rfl⟩
  clear hHeld
  refine wpAnyH_flow' (f := 2) [1, 2, 4, 5, 8, 9] [23, 24, 26, 27, 30, 31] [[], [0], [], [2], [], [4]] [D0, D1, D2, D3, D4, D5]
    (by kernel_rfl) rfl (by decide) [undef, undef, undef, undef, undef, undef] rfl (by rfl) ?_ (fun y h => (KC (below_step h Seq.way)).out) ?_ ?_
  · intro D hD v y z hDv hyz
    simp only [List.mem_cons, List.not_mem_nil, or_false] at hD
    rcases hD with rfl | rfl | rfl | rfl | rfl | rfl
    · rw [hD0] at hDv ⊢
      obtain ⟨a, c, e, h⟩ := hDv
      exact ⟨a, c, e, h.at hyz⟩
    · rw [hD1] at hDv ⊢
      obtain ⟨a, c, e, h⟩ := hDv
      exact ⟨a, c, e, h.at hyz⟩
    · rw [hD2] at hDv ⊢
      obtain ⟨a, c, e, h⟩ := hDv
      exact ⟨a, c, e, h.at hyz⟩
    · rw [hD3] at hDv ⊢
      obtain ⟨a, c, e, h⟩ := hDv
      exact ⟨a, c, e, h.at hyz⟩
    · rw [hD4] at hDv ⊢
      obtain ⟨a, c, e, h⟩ := hDv
      exact ⟨a, c, e, h.at hyz⟩
    · rw [hD5] at hDv ⊢
      obtain ⟨a, c, e, h⟩ := hDv
      exact ⟨a, c, e, h.at hyz⟩
  · intro k hk vs y hvs hby0 hdeps
    have hzy := hby0.size
    obtain ⟨v0, v1, v2, v3, v4, v5, rfl⟩ : ∃ v0 v1 v2 v3 v4 v5, vs = [v0, v1, v2, v3, v4, v5] := by
      match vs, hvs with
      | [v0, v1, v2, v3, v4, v5], _ => exact ⟨v0, v1, v2, v3, v4, v5, rfl⟩
    simp only [putsL, Act.put, List.setIfInBounds_toArray, List.set_cons_zero, List.set_cons_succ]
    rcases (show k = 0 ∨ k = 1 ∨ k = 2 ∨ k = 3 ∨ k = 4 ∨ k = 5 by simp at hk; omega) with rfl | rfl | rfl | rfl | rfl | rfl
    · refine ⟨_, rfl, by rfl, fun K hK => ?_⟩
      go_simp
      refine hK.out _ _ (Seq.way) (holds_of (D := D0) rfl ?_)
      rw [hD0]
      exact ⟨_, _, rfl, seq_cells (cs := [hA]) (Row.new y (flatV [hA]) _ rfl) hd_cw1 rfl (by decide)⟩
    · have hd := hdeps 0 (by simp) v0 rfl D0 rfl
      rw [hD0] at hd
      obtain ⟨a5, c5, rfl, hp⟩ := hd
      have Hp := Lib.hid hp
      clear hp
      refine ⟨_, rfl, by rfl, fun K hK => ?_⟩
      go_simp
      refine (p_spec (l := [hA]) Hp.out (by decide) (by decide)).mono ?_
      rintro e z ⟨v, rfl, hbz, hp⟩
      obtain ⟨a6, c6, rfl⟩ := hp.shape
      refine hK.out _ _ hbz (holds_of (D := D1) rfl ?_)
      rw [hD1]
      exact ⟨a6, c6, rfl, hp.any⟩
    · refine ⟨_, rfl, by rfl, fun K hK => ?_⟩
      go_simp
      refine hK.out _ _ (Seq.way) (holds_of (D := D2) rfl ?_)
      rw [hD2]
      exact ⟨_, _, rfl, seq_cells (cs := [hB]) (Row.new y (flatV [hB]) _ rfl) hd_cw2 rfl (by decide)⟩
    · have hd := hdeps 2 (by simp) v2 rfl D2 rfl
      rw [hD2] at hd
      obtain ⟨a5, c5, rfl, hp⟩ := hd
      have Hp := Lib.hid hp
      clear hp
      refine ⟨_, rfl, by rfl, fun K hK => ?_⟩
      go_simp
      refine (p_spec (l := [hB]) Hp.out (by decide) (by decide)).mono ?_
      rintro e z ⟨v, rfl, hbz, hp⟩
      obtain ⟨a6, c6, rfl⟩ := hp.shape
      refine hK.out _ _ hbz (holds_of (D := D3) rfl ?_)
      rw [hD3]
      exact ⟨a6, c6, rfl, hp.any⟩
    · refine ⟨_, rfl, by rfl, fun K hK => ?_⟩
      go_simp
      refine hK.out _ _ (Seq.way) (holds_of (D := D4) rfl ?_)
      rw [hD4]
      exact ⟨_, _, rfl, seq_cells (cs := [hA, hA]) (Row.new y (flatV [hA, hA]) _ rfl) hd_cw3 rfl (by decide)⟩
    · have hd := hdeps 4 (by simp) v4 rfl D4 rfl
      rw [hD4] at hd
      obtain ⟨a5, c5, rfl, hp⟩ := hd
      have Hp := Lib.hid hp
      clear hp
      refine ⟨_, rfl, by rfl, fun K hK => ?_⟩
      go_simp
      refine (p_spec (l := [hA, hA]) Hp.out (by decide) (by decide)).mono ?_
      rintro e z ⟨v, rfl, hbz, hp⟩
      obtain ⟨a6, c6, rfl⟩ := hp.shape
      refine hK.out _ _ hbz (holds_of (D := D5) rfl ?_)
      rw [hD5]
      exact ⟨a6, c6, rfl, hp.any⟩
  intro vs y hvs hby0 hhas
  obtain ⟨v0, v1, v2, v3, v4, v5, rfl⟩ : ∃ v0 v1 v2 v3 v4 v5, vs = [v0, v1, v2, v3, v4, v5] := by
    match vs, hvs with
    | [v0, v1, v2, v3, v4, v5], _ => exact ⟨v0, v1, v2, v3, v4, v5, rfl⟩
  have x0 := hhas 0 v0 rfl D0 rfl
  have x1 := hhas 1 v1 rfl D1 rfl
  have x2 := hhas 2 v2 rfl D2 rfl
  have x3 := hhas 3 v3 rfl D3 rfl
  have x4 := hhas 4 v4 rfl D4 rfl
  have x5 := hhas 5 v5 rfl D5 rfl
  rw [hD0] at x0
  rw [hD1] at x1
  rw [hD2] at x2
  rw [hD3] at x3
  rw [hD4] at x4
  rw [hD5] at x5
  obtain ⟨_, _, rfl, -⟩ := x0
  obtain ⟨a0, c0, rfl, h0⟩ := x1
  obtain ⟨_, _, rfl, -⟩ := x2
  obtain ⟨a1, c1, rfl, h1⟩ := x3
  obtain ⟨_, _, rfl, -⟩ := x4
  obtain ⟨a2, c2, rfl, h2⟩ := x5
  have H0 := Lib.hid h0
  have H1 := Lib.hid h1
  have H2 := Lib.hid h2
  have HY := Lib.hid (below_step hby0 (Seq.way : Below W0.heap.size W0 W0.drew))
  clear h0 h1 h2 hhas hvs hD0 hD1 hD2 hD3 hD4 hD5 D0 D1 D2 D3 D4 D5 hby0
  simp only [putsL, Act.put, List.setIfInBounds_toArray, List.set_cons_zero, List.set_cons_succ]
  obtain ⟨W1, hW1⟩ : ∃ W, W = y.alloc (.cells #[.slice a0 2 c0, .slice a1 2 c1, .slice a2 3 c2] 24) := ⟨_, rfl⟩
  have HB2 := Lib.hid (show Below W0.heap.size W0 W1 by rw [hW1]; exact HY.out.alloc HY.out.size _)
  refine wpAnyH_one (i := 10) (by kernel_rfl) rfl (by rfl) fun K hK => ?_
  go_simp
  refine hK.out _ _ (KC (HY.out.alloc HY.out.size _)).out fun hHeld => ?_
  clear hK K
  (try simp only [Act.put, List.getElem_toArray, List.getElem_cons_zero, List.getElem_cons_succ, List.setIfInBounds_toArray, List.set_cons_zero, List.set_cons_succ])
  refine wpAnyH_one (i := 11) (by kernel_rfl) rfl (by rfl) fun K hK => ?_
  go_simp
  refine hK.out _ _ (KC (HY.out.alloc HY.out.size _)).out fun hHeld => ?_
  clear hK K hHeld
  (try simp only [Act.put, List.getElem_toArray, List.getElem_cons_zero, List.getElem_cons_succ, List.setIfInBounds_toArray, List.set_cons_zero, List.set_cons_succ])
  refine wpAnyH_done (by kernel_rfl) ?_ _
  refine NoPanic.normal ?_
  have hby : Below y.heap.size y W1 := by rw [hW1]; exact Seq.way
  have RL := Lib.hid (show RowA 24 W1 y.heap.size [.slice a0 2 c0, .slice a1 2 c1, .slice a2 3 c2] by rw [hW1]; exact Row.new y [_, _, _] _ rfl)
  rw [← hW1]
  replace H0 := Lib.hid (H0.out.at hby)
  replace H1 := Lib.hid (H1.out.at hby)
  replace H2 := Lib.hid (H2.out.at hby)
  replace R0 := Lib.hid (R0.out.at HB2.out)
  replace R1 := Lib.hid (R1.out.at HB2.out)
  replace R2 := Lib.hid (R2.out.at HB2.out)
  have HB := Lib.hid (below_step HB2.out HB1.out)
  obtain ⟨bL, hbL⟩ : ∃ b, b = y.heap.size := ⟨_, rfl⟩
  rw [← hbL] at RL ⊢
  clear hbL hby hW1 KC HY HB2 HB1 HW0 hs0
  have KF := fun {y : World} (h : Below W1.heap.size W1 y) => Lib.hid (show y.cell? ⟨bA, 0, none⟩ = some (.int .i64 3) ∧ y.cell? ⟨bA, 1, none⟩ = some (.string ⟨#[97]⟩) ∧ y.cell? ⟨bA, 2, none⟩ = some (.int .i64 0) ∧ y.cell? ⟨bA + 1, 0, none⟩ = some (.int .i64 3) ∧ y.cell? ⟨bA + 1, 1, none⟩ = some (.string ⟨#[98]⟩) ∧ y.cell? ⟨bA + 1, 2, none⟩ = some (.int .i64 0) ∧ y.cell? ⟨bA + 1 + 1, 0, none⟩ = some (.int .i64 1) ∧ y.cell? ⟨bA + 1 + 1, 1, none⟩ = some (.string ⟨#[]⟩) ∧ y.cell? ⟨bA + 1 + 1, 2, none⟩ = some (.int .i64 0) ∧ y.cell? ⟨bL, 0, none⟩ = some (.slice a0 2 c0) ∧ y.cell? ⟨bL, 1, none⟩ = some (.slice a1 2 c1) ∧ y.cell? ⟨bL, 2, none⟩ = some (.slice a2 3 c2) from ⟨(R0.out.at h).row.cell (j := 0) (by simp), (R0.out.at h).row.cell (j := 1) (by simp), (R0.out.at h).row.cell (j := 2) (by simp), (R1.out.at h).row.cell (j := 0) (by simp), (R1.out.at h).row.cell (j := 1) (by simp), (R1.out.at h).row.cell (j := 2) (by simp), (R2.out.at h).row.cell (j := 0) (by simp), (R2.out.at h).row.cell (j := 1) (by simp), (R2.out.at h).row.cell (j := 2) (by simp), (RL.out.at h).row.cell (j := 0) (by simp), (RL.out.at h).row.cell (j := 1) (by simp), (RL.out.at h).row.cell (j := 2) (by simp)⟩)
  have HL := Lib.hid (rows3 RL.out.row H0.out H1.out H2.out)
  have HL1 : Hid (Seq (seqE cellE) (fun _ => True) W1 (.slice (some ⟨bL, 1, none⟩) 2 2) [g1, g2]) := Lib.hid (Seq.drop (xs := [g0, g1, g2]) (ao := some ⟨bL, 0, none⟩) (cap := 3) HL.out (i := 1) (by decide) (by simp [seqE, Addr.add]) rfl rfl)
  have HLd : Hid (Seq (seqE cellE) (fun _ => True) W1 (.slice (some ⟨bL, 2, none⟩) 1 1) [g2]) := Lib.hid (Seq.drop (xs := [g0, g1, g2]) (ao := some ⟨bL, 0, none⟩) (cap := 3) HL.out (i := 2) (by decide) (by simp [seqE, Addr.add]) rfl rfl)
  have HL2 : Hid (Seq (seqE cellE) (fun _ => True) W1 (.slice (some ⟨bL, 0, none⟩) 2 3) [g0, g1]) := Lib.hid (Seq.take (xs := [g0, g1, g2]) (ao := some ⟨bL, 0, none⟩) (cap := 3) HL.out (j := 2) (by decide))
  have HLt : Hid (Seq (seqE cellE) (fun _ => True) W1 (.slice (some ⟨bL, 0, none⟩) 1 3) [g0]) := Lib.hid (Seq.take (xs := [g0, g1, g2]) (ao := some ⟨bL, 0, none⟩) (cap := 3) HL.out (j := 1) (by decide))
  have HC0 := Lib.hid (Below.refl W1.heap.size W1)
  clear R0 R1 R2
  obtain ⟨e0, e1, e2, e3, e4, e5, e6, e7, e8, e9, e10, e11⟩ := (KF HC0.out).out
  go_wp2_with fail
  refine wp_region_noPanic ?_
  refine wp_region_held_drew (S := fun y => y.cell? ⟨bL, 0, none⟩ = some (.slice a0 2 c0)) (by kernel_rfl) e9 (fun hHeld => ?_)
  refine wpAnyH_take1 (i := 0) (oi := _) (v := ?_) (by kernel_rfl) rfl (by kernel_rfl) (fun _ _ _ h => h) (Or.inl ⟨by rfl, ?_⟩) hHeld ?_
  rotate_left 1
  · intro y hSw; (try dsimp only at hSw); go_simp; (with_reducible rfl)
  (try simp only [Act.put, List.getElem_toArray, List.getElem_cons_zero, List.setIfInBounds_toArray, List.set_cons_zero, List.set_cons_succ])
  refine wpAnyH_take1 (i := 1) (oi := _) (v := ?_) (by kernel_rfl) rfl (by kernel_rfl) (fun _ _ _ h => h) (Or.inl ⟨by rfl, ?_⟩) hHeld ?_
  rotate_left 1
  · intro y hSw; (try dsimp only at hSw); go_simp; (with_reducible rfl)
  (try simp only [Act.put, List.getElem_toArray, List.getElem_cons_zero, List.getElem_cons_succ, List.setIfInBounds_toArray, List.set_cons_zero, List.set_cons_succ])
  refine wpAnyH_take1 (i := 2) (oi := _) (v := ?_) (by kernel_rfl) rfl (by kernel_rfl) (fun _ _ _ h => h) (Or.inl ⟨by rfl, ?_⟩) hHeld ?_
  rotate_left 1
  · intro y hSw; (try dsimp only at hSw); go_simp; (with_reducible rfl)
  (try simp only [Act.put, List.getElem_toArray, List.getElem_cons_zero, List.getElem_cons_succ, List.setIfInBounds_toArray, List.set_cons_zero, List.set_cons_succ])
  refine wpAnyH_take1 (i := 3) (oi := _) (v := ?_) (by kernel_rfl) rfl (by kernel_rfl) (fun _ _ _ h => h) (Or.inl ⟨by rfl, ?_⟩) hHeld ?_
  rotate_left 1
  · intro y hSw; (try dsimp only at hSw); go_simp; (with_reducible rfl)
  (try simp only [Act.put, List.getElem_toArray, List.getElem_cons_zero, List.getElem_cons_succ, List.setIfInBounds_toArray, List.set_cons_zero, List.set_cons_succ])
  refine wpAnyH_take1 (i := 4) (oi := _) (v := ?_) (by kernel_rfl) rfl (by kernel_rfl) (fun _ _ _ h => h) (Or.inl ⟨by rfl, ?_⟩) hHeld ?_
  rotate_left 1
  · intro y hSw; (try dsimp only at hSw); go_simp; (with_reducible rfl)
  (try simp only [Act.put, List.getElem_toArray, List.getElem_cons_zero, List.getElem_cons_succ, List.setIfInBounds_toArray, List.set_cons_zero, List.set_cons_succ])
  refine wpAnyH_one (i := 5) (by kernel_rfl) rfl (by rfl) fun K hK => ?_
  go_simp
  refine (AddP_spec (HL1.out.at Seq.way) (H0.out.at Seq.way) hd_r1).mono ?_
  rintro e w1 ⟨v1, rfl, hb, hs⟩
  rw [hd_a1] at hs
  rw [hd_a1e]
  replace hs := hs.any
  obtain ⟨m1, k1, rfl⟩ := hs.shape
  have hk9 := (hb.cell (p := ⟨bL, 0, none⟩) (by have := RL.out.row.lt; exact this)).trans e9
  (try dsimp only)
  clear hHeld
  refine hK.out _ _ hk9 fun hHeld => ?_
  clear hK K
  (try simp only [Act.put, List.getElem_toArray, List.getElem_cons_zero, List.getElem_cons_succ, List.setIfInBounds_toArray, List.set_cons_zero, List.set_cons_succ])
  clear e0 e1 e2 e3 e4 e5 e6 e7 e8 e9 e10 e11
  replace hb := below_step hb (Seq.way : Below W1.heap.size W1 _)
  replace H0 := Lib.hid (H0.out.at hb)
  replace H1 := Lib.hid (H1.out.at hb)
  replace H2 := Lib.hid (H2.out.at hb)
  replace HL := Lib.hid (HL.out.at hb)
  replace HL1 := Lib.hid (HL1.out.at hb)
  replace HLd := Lib.hid (HLd.out.at hb)
  replace HL2 := Lib.hid (HL2.out.at hb)
  replace HLt := Lib.hid (HLt.out.at hb)
  have HC1 := Lib.hid (below_step hb HC0.out)
  clear hb
  have HM := Lib.hid hs
  clear hs
  refine wpAnyH_take1 (i := 6) (oi := _) (v := ?_) (by kernel_rfl) rfl (by kernel_rfl) (fun _ _ _ h => h) (Or.inl ⟨by rfl, ?_⟩) hHeld ?_
  rotate_left 1
  · intro y hSw; (try dsimp only at hSw); go_simp; (with_reducible rfl)
  (try simp only [Act.put, List.getElem_toArray, List.getElem_cons_zero, List.getElem_cons_succ, List.setIfInBounds_toArray, List.set_cons_zero, List.set_cons_succ])
  refine wpAnyH_take1 (i := 7) (oi := _) (v := ?_) (by kernel_rfl) rfl (by kernel_rfl) (fun _ _ _ h => h) (Or.inl ⟨by rfl, ?_⟩) hHeld ?_
  rotate_left 1
  · intro y hSw; (try dsimp only at hSw); go_simp; (with_reducible rfl)
  (try simp only [Act.put, List.getElem_toArray, List.getElem_cons_zero, List.getElem_cons_succ, List.setIfInBounds_toArray, List.set_cons_zero, List.set_cons_succ])
  refine wpAnyH_take1 (i := 8) (oi := _) (v := ?_) (by kernel_rfl) rfl (by kernel_rfl) (fun _ _ _ h => h) (Or.inl ⟨by rfl, ?_⟩) hHeld ?_
  rotate_left 1
  · intro y hSw; (try dsimp only at hSw); go_simp; (with_reducible rfl)
  (try simp only [Act.put, List.getElem_toArray, List.getElem_cons_zero, List.getElem_cons_succ, List.setIfInBounds_toArray, List.set_cons_zero, List.set_cons_succ])
  refine wpAnyH_one (i := 9) (by kernel_rfl) rfl (by rfl) fun K hK => ?_
  go_simp
  refine hK.out _ _ hk9 fun hHeld => ?_
  clear hK K
  (try simp only [Act.put, List.getElem_toArray, List.getElem_cons_zero, List.getElem_cons_succ, List.setIfInBounds_toArray, List.set_cons_zero, List.set_cons_succ])
  refine wpAnyH_one (i := 10) (by kernel_rfl) rfl (by rfl) fun K hK => ?_
  go_simp
  refine hK.out _ _ hk9 fun hHeld => ?_
  clear hK K
  (try simp only [Act.put, List.getElem_toArray, List.getElem_cons_zero, List.getElem_cons_succ, List.setIfInBounds_toArray, List.set_cons_zero, List.set_cons_succ])
  refine wpAnyH_done (by kernel_rfl) ?_ _
  refine NoPanic.normal ?_
  clear hHeld hk9
  obtain ⟨e0, e1, e2, e3, e4, e5, e6, e7, e8, e9, e10, e11⟩ := (KF HC1.out).out
  go_wp2_with fail
  refine (p_spec (nm := ⟨#[112]⟩) (l := [hV]) (seq_cells (cs := [hV]) (Row.new w1 (flatV [hV]) _ rfl) hd_cw4 rfl (by decide)) (by decide) (by decide)).mono ?_
  rintro e w2 ⟨v2, rfl, hb, hs⟩
  replace hs := hs.any
  have hs : Seq cellE (fun _ => True) w2 v2 gpv := hs
  obtain ⟨m2, k2, rfl⟩ := hs.shape
  replace hb := below_step hb (Seq.way : Below w1.heap.size w1 _)
  replace H0 := Lib.hid (H0.out.at hb)
  replace H1 := Lib.hid (H1.out.at hb)
  replace H2 := Lib.hid (H2.out.at hb)
  replace HL := Lib.hid (HL.out.at hb)
  replace HL1 := Lib.hid (HL1.out.at hb)
  replace HLd := Lib.hid (HLd.out.at hb)
  replace HL2 := Lib.hid (HL2.out.at hb)
  replace HLt := Lib.hid (HLt.out.at hb)
  replace HM := Lib.hid (HM.out.at hb)
  have HC2 := Lib.hid (below_step hb HC1.out)
  clear hb
  have HPV := Lib.hid hs
  clear hs
  clear e0 e1 e2 e3 e4 e5 e6 e7 e8 e9 e10 e11
  go_wp2_with fail
  refine (AddP_spec (Seq.nil (seqE cellE) (fun _ => True) _) HPV.out hd_r0).mono ?_
  rintro e w3 ⟨v3, rfl, hb, hs⟩
  rw [hd_a2] at hs
  rw [hd_a2e]
  replace hs := hs.any
  obtain ⟨m3, k3, rfl⟩ := hs.shape
  replace hb := below_step hb (Seq.way : Below w2.heap.size w2 _)
  replace H0 := Lib.hid (H0.out.at hb)
  replace H1 := Lib.hid (H1.out.at hb)
  replace H2 := Lib.hid (H2.out.at hb)
  replace HL := Lib.hid (HL.out.at hb)
  replace HL1 := Lib.hid (HL1.out.at hb)
  replace HLd := Lib.hid (HLd.out.at hb)
  replace HL2 := Lib.hid (HL2.out.at hb)
  replace HLt := Lib.hid (HLt.out.at hb)
  replace HM := Lib.hid (HM.out.at hb)
  replace HPV := Lib.hid (HPV.out.at hb)
  have HC3 := Lib.hid (below_step hb HC2.out)
  clear hb
  clear hs
  obtain ⟨e0, e1, e2, e3, e4, e5, e6, e7, e8, e9, e10, e11⟩ := (KF HC3.out).out
  go_wp2_with fail
  refine (DropP_spec HL.out H1.out hd_r).mono ?_
  rintro e w4 ⟨v4, rfl, hb, hs⟩
  rw [hd_d1] at hs
  rw [hd_d1e]
  replace hs := hs.any
  obtain ⟨m4, k4, rfl⟩ := hs.shape
  replace hb := below_step hb (Seq.way : Below w3.heap.size w3 _)
  replace H0 := Lib.hid (H0.out.at hb)
  replace H1 := Lib.hid (H1.out.at hb)
  replace H2 := Lib.hid (H2.out.at hb)
  replace HL := Lib.hid (HL.out.at hb)
  replace HL1 := Lib.hid (HL1.out.at hb)
  replace HLd := Lib.hid (HLd.out.at hb)
  replace HL2 := Lib.hid (HL2.out.at hb)
  replace HLt := Lib.hid (HLt.out.at hb)
  replace HM := Lib.hid (HM.out.at hb)
  replace HPV := Lib.hid (HPV.out.at hb)
  have HC4 := Lib.hid (below_step hb HC3.out)
  clear hb
  have HN := Lib.hid hs
  clear hs
  clear e0 e1 e2 e3 e4 e5 e6 e7 e8 e9 e10 e11
  obtain ⟨e0, e1, e2, e3, e4, e5, e6, e7, e8, e9, e10, e11⟩ := (KF HC4.out).out
  go_wp2_with fail
  refine (p_spec (nm := ⟨#[113]⟩) (l := [hA, hB]) (seq_cells (cs := [hA, hB]) (Row.new w4 (flatV [hA, hB]) _ rfl) hd_cw5 rfl (by decide)) (by decide) (by decide)).mono ?_
  rintro e w5 ⟨v5, rfl, hb, hs⟩
  replace hs := hs.any
  have hs : Seq cellE (fun _ => True) w5 v5 gqab := hs
  obtain ⟨m5, k5, rfl⟩ := hs.shape
  replace hb := below_step hb (Seq.way : Below w4.heap.size w4 _)
  replace H0 := Lib.hid (H0.out.at hb)
  replace H1 := Lib.hid (H1.out.at hb)
  replace H2 := Lib.hid (H2.out.at hb)
  replace HL := Lib.hid (HL.out.at hb)
  replace HL1 := Lib.hid (HL1.out.at hb)
  replace HLd := Lib.hid (HLd.out.at hb)
  replace HL2 := Lib.hid (HL2.out.at hb)
  replace HLt := Lib.hid (HLt.out.at hb)
  replace HM := Lib.hid (HM.out.at hb)
  replace HPV := Lib.hid (HPV.out.at hb)
  replace HN := Lib.hid (HN.out.at hb)
  have HC5 := Lib.hid (below_step hb HC4.out)
  clear hb
  have HAB := Lib.hid hs
  clear hs
  clear e0 e1 e2 e3 e4 e5 e6 e7 e8 e9 e10 e11
  go_wp2_with fail
  refine (DropP_spec HL.out HAB.out hd_r).mono ?_
  rintro e w6 ⟨v6, rfl, hb, hs⟩
  rw [hd_d2] at hs
  rw [hd_d2e]
  replace hs := hs.any
  obtain ⟨m6, k6, rfl⟩ := hs.shape
  replace hb := below_step hb (Seq.way : Below w5.heap.size w5 _)
  replace H0 := Lib.hid (H0.out.at hb)
  replace H1 := Lib.hid (H1.out.at hb)
  replace H2 := Lib.hid (H2.out.at hb)
  replace HL := Lib.hid (HL.out.at hb)
  replace HL1 := Lib.hid (HL1.out.at hb)
  replace HLd := Lib.hid (HLd.out.at hb)
  replace HL2 := Lib.hid (HL2.out.at hb)
  replace HLt := Lib.hid (HLt.out.at hb)
  replace HM := Lib.hid (HM.out.at hb)
  replace HPV := Lib.hid (HPV.out.at hb)
  replace HN := Lib.hid (HN.out.at hb)
  replace HAB := Lib.hid (HAB.out.at hb)
  have HC6 := Lib.hid (below_step hb HC5.out)
  clear hb
  clear hs
  go_wp2_with fail
  have HI := Lib.hid (show Seq cellE (fun _ => True) (w6.alloc (.cells #[.int .i64 2, .string ⟨#[]⟩, .int .i64 0] 35)) (.slice (some ⟨w6.heap.size, 0, none⟩) 1 1) gi from seq_cells (cs := [hI]) (Row.new w6 (flatV [hI]) 35 rfl) hd_cw6 rfl (by decide))
  refine (DropP_spec (HL.out.at Seq.way) HI.out hd_r).mono ?_
  rintro e w7 ⟨v7, rfl, hb, hs⟩
  rw [hd_d3] at hs
  rw [hd_d3e]
  replace hs := hs.any
  obtain ⟨m7, k7, rfl⟩ := hs.shape
  replace hb := below_step hb (Seq.way : Below w6.heap.size w6 _)
  replace H0 := Lib.hid (H0.out.at hb)
  replace H1 := Lib.hid (H1.out.at hb)
  replace H2 := Lib.hid (H2.out.at hb)
  replace HL := Lib.hid (HL.out.at hb)
  replace HL1 := Lib.hid (HL1.out.at hb)
  replace HLd := Lib.hid (HLd.out.at hb)
  replace HL2 := Lib.hid (HL2.out.at hb)
  replace HLt := Lib.hid (HLt.out.at hb)
  replace HM := Lib.hid (HM.out.at hb)
  replace HPV := Lib.hid (HPV.out.at hb)
  replace HN := Lib.hid (HN.out.at hb)
  replace HAB := Lib.hid (HAB.out.at hb)
  have HC7 := Lib.hid (below_step hb HC6.out)
  clear hb
  clear hs
  clear HI
  obtain ⟨e0, e1, e2, e3, e4, e5, e6, e7, e8, e9, e10, e11⟩ := (KF HC7.out).out
  go_wp2_with fail
  refine (AddP_spec HL.out H2.out hd_r).mono ?_
  rintro e w8 ⟨v8, rfl, hb, hs⟩
  rw [hd_a3] at hs
  rw [hd_a3e]
  replace hs := hs.any
  obtain ⟨m8, k8, rfl⟩ := hs.shape
  replace hb := below_step hb (Seq.way : Below w7.heap.size w7 _)
  replace H0 := Lib.hid (H0.out.at hb)
  replace H1 := Lib.hid (H1.out.at hb)
  replace H2 := Lib.hid (H2.out.at hb)
  replace HL := Lib.hid (HL.out.at hb)
  replace HL1 := Lib.hid (HL1.out.at hb)
  replace HLd := Lib.hid (HLd.out.at hb)
  replace HL2 := Lib.hid (HL2.out.at hb)
  replace HLt := Lib.hid (HLt.out.at hb)
  replace HM := Lib.hid (HM.out.at hb)
  replace HPV := Lib.hid (HPV.out.at hb)
  replace HN := Lib.hid (HN.out.at hb)
  replace HAB := Lib.hid (HAB.out.at hb)
  have HC8 := Lib.hid (below_step hb HC7.out)
  clear hb
  have HO := Lib.hid hs
  clear hs
  clear e0 e1 e2 e3 e4 e5 e6 e7 e8 e9 e10 e11
  go_wp2_with fail
  refine wp_region_noPanic ?_
  refine wp_region_held_drew (S := fun _ => True) (by kernel_rfl) trivial (fun hHeld => ?_)
  refine wpAnyH_take1 (i := 0) (oi := _) (v := ?_) (by kernel_rfl) rfl (by kernel_rfl) (fun _ _ _ h => h) (Or.inl ⟨by rfl, ?_⟩) hHeld ?_
  rotate_left 1
  · intro y hSw; (try dsimp only at hSw); go_simp; (with_reducible rfl)
  (try simp only [Act.put, List.getElem_toArray, List.getElem_cons_zero, List.setIfInBounds_toArray, List.set_cons_zero, List.set_cons_succ])
  refine wpAnyH_take1 (i := 1) (oi := _) (v := ?_) (by kernel_rfl) rfl (by kernel_rfl) (fun _ _ _ h => h) (Or.inl ⟨by rfl, ?_⟩) hHeld ?_
  rotate_left 1
  · intro y hSw; (try dsimp only at hSw); go_simp; (with_reducible rfl)
  (try simp only [Act.put, List.getElem_toArray, List.getElem_cons_zero, List.getElem_cons_succ, List.setIfInBounds_toArray, List.set_cons_zero, List.set_cons_succ])
  refine wpAnyH_take1 (i := 2) (oi := _) (v := ?_) (by kernel_rfl) rfl (by kernel_rfl) (fun _ _ _ h => h) (Or.inl ⟨by rfl, ?_⟩) hHeld ?_
  rotate_left 1
  · intro y hSw; (try dsimp only at hSw); go_simp; (with_reducible rfl)
  (try simp only [Act.put, List.getElem_toArray, List.getElem_cons_zero, List.getElem_cons_succ, List.setIfInBounds_toArray, List.set_cons_zero, List.set_cons_succ])
  refine wpAnyH_take1 (i := 3) (oi := _) (v := ?_) (by kernel_rfl) rfl (by kernel_rfl) (fun _ _ _ h => h) (Or.inl ⟨by rfl, ?_⟩) hHeld ?_
  rotate_left 1
  · intro y hSw; (try dsimp only at hSw); go_simp; (with_reducible rfl)
  (try simp only [Act.put, List.getElem_toArray, List.getElem_cons_zero, List.getElem_cons_succ, List.setIfInBounds_toArray, List.set_cons_zero, List.set_cons_succ])
  refine wpAnyH_one (i := 4) (by kernel_rfl) rfl (by rfl) fun K hK => ?_
  go_simp
  refine (DiffP_spec (HL2.out.at Seq.way) (HL1.out.at Seq.way) hd_r2 hd_r1).mono ?_
  rintro e w9 ⟨v9, u9, rfl, hb, hs, hs2⟩
  rw [hd_l1] at hs
  rw [hd_l2] at hs2
  replace hs := hs.any
  replace hs2 := hs2.any
  obtain ⟨m9, k9, rfl⟩ := hs.shape
  obtain ⟨mm9, kk9, rfl⟩ := hs2.shape
  (try dsimp only)
  clear hHeld
  refine hK.out _ _ trivial fun hHeld => ?_
  clear hK K
  (try simp only [Act.put, List.getElem_toArray, List.getElem_cons_zero, List.getElem_cons_succ, List.setIfInBounds_toArray, List.set_cons_zero, List.set_cons_succ])
  replace hb := below_step hb (Seq.way : Below w8.heap.size w8 _)
  replace H0 := Lib.hid (H0.out.at hb)
  replace H1 := Lib.hid (H1.out.at hb)
  replace H2 := Lib.hid (H2.out.at hb)
  replace HL := Lib.hid (HL.out.at hb)
  replace HL1 := Lib.hid (HL1.out.at hb)
  replace HLd := Lib.hid (HLd.out.at hb)
  replace HL2 := Lib.hid (HL2.out.at hb)
  replace HLt := Lib.hid (HLt.out.at hb)
  replace HM := Lib.hid (HM.out.at hb)
  replace HPV := Lib.hid (HPV.out.at hb)
  replace HN := Lib.hid (HN.out.at hb)
  replace HAB := Lib.hid (HAB.out.at hb)
  replace HO := Lib.hid (HO.out.at hb)
  have HC9 := Lib.hid (below_step hb HC8.out)
  clear hb
  have HX := Lib.hid hs
  have HZ := Lib.hid hs2
  clear hs hs2
  refine wpAnyH_take1 (i := 5) (oi := _) (v := ?_) (by kernel_rfl) rfl (by kernel_rfl) (fun _ _ _ h => h) (Or.inl ⟨by rfl, ?_⟩) hHeld ?_
  rotate_left 1
  · intro y hSw; (try dsimp only at hSw); go_simp; (with_reducible rfl)
  (try simp only [Act.put, List.getElem_toArray, List.getElem_cons_zero, List.getElem_cons_succ, List.setIfInBounds_toArray, List.set_cons_zero, List.set_cons_succ])
  refine wpAnyH_take1 (i := 6) (oi := _) (v := ?_) (by kernel_rfl) rfl (by kernel_rfl) (fun _ _ _ h => h) (Or.inl ⟨by rfl, ?_⟩) hHeld ?_
  rotate_left 1
  · intro y hSw; (try dsimp only at hSw); go_simp; (with_reducible rfl)
  (try simp only [Act.put, List.getElem_toArray, List.getElem_cons_zero, List.getElem_cons_succ, List.setIfInBounds_toArray, List.set_cons_zero, List.set_cons_succ])
  refine wpAnyH_take1 (i := 7) (oi := _) (v := ?_) (by kernel_rfl) rfl (by kernel_rfl) (fun _ _ _ h => h) (Or.inl ⟨by rfl, ?_⟩) hHeld ?_
  rotate_left 1
  · intro y hSw; (try dsimp only at hSw); go_simp; (with_reducible rfl)
  (try simp only [Act.put, List.getElem_toArray, List.getElem_cons_zero, List.getElem_cons_succ, List.setIfInBounds_toArray, List.set_cons_zero, List.set_cons_succ])
  refine wpAnyH_one (i := 8) (by kernel_rfl) rfl (by rfl) fun K hK => ?_
  go_simp
  refine hK.out _ _ trivial fun hHeld => ?_
  clear hK K
  (try simp only [Act.put, List.getElem_toArray, List.getElem_cons_zero, List.getElem_cons_succ, List.setIfInBounds_toArray, List.set_cons_zero, List.set_cons_succ])
  refine wpAnyH_one (i := 9) (by kernel_rfl) rfl (by rfl) fun K hK => ?_
  go_simp
  refine hK.out _ _ trivial fun hHeld => ?_
  clear hK K
  (try simp only [Act.put, List.getElem_toArray, List.getElem_cons_zero, List.getElem_cons_succ, List.setIfInBounds_toArray, List.set_cons_zero, List.set_cons_succ])
  refine wpAnyH_done (by kernel_rfl) ?_ _
  refine NoPanic.normal ?_
  clear hHeld
  obtain ⟨e0, e1, e2, e3, e4, e5, e6, e7, e8, e9, e10, e11⟩ := (KF HC9.out).out
  go_wp2_with fail
  simp only [List.append_eq, List.cons_append, List.nil_append]
  clear e0 e1 e2 e3 e4 e5 e6 e7 e8 e9 e10 e11
  refine wp_region_noPanic ?_
  refine wp_region_held_drew (S := fun y => y.cell? ⟨bA, 0, none⟩ = some (.int .i64 3) ∧ y.cell? ⟨bA, 1, none⟩ = some (.string ⟨#[97]⟩) ∧ y.cell? ⟨bA, 2, none⟩ = some (.int .i64 0) ∧ y.cell? ⟨bA + 1, 0, none⟩ = some (.int .i64 3) ∧ y.cell? ⟨bA + 1, 1, none⟩ = some (.string ⟨#[98]⟩) ∧ y.cell? ⟨bA + 1, 2, none⟩ = some (.int .i64 0) ∧ y.cell? ⟨bA + 1 + 1, 0, none⟩ = some (.int .i64 1) ∧ y.cell? ⟨bA + 1 + 1, 1, none⟩ = some (.string ⟨#[]⟩) ∧ y.cell? ⟨bA + 1 + 1, 2, none⟩ = some (.int .i64 0) ∧ y.cell? ⟨bL, 0, none⟩ = some (.slice a0 2 c0) ∧ y.cell? ⟨bL, 1, none⟩ = some (.slice a1 2 c1) ∧ y.cell? ⟨bL, 2, none⟩ = some (.slice a2 3 c2)) (by kernel_rfl) (KF (below_step Seq.way HC9.out)).out (fun hHeld => ?_)
  obtain ⟨w10, hw⟩ : ∃ y, y = w9.drew := ⟨_, rfl⟩
  have hb : Below w9.heap.size w9 w10 := by rw [hw]; exact Seq.way
  rw [← hw] at hHeld ⊢
  clear hw
  replace hb := below_step hb (Seq.way : Below w9.heap.size w9 _)
  replace H0 := Lib.hid (H0.out.at hb)
  replace H1 := Lib.hid (H1.out.at hb)
  replace H2 := Lib.hid (H2.out.at hb)
  replace HL := Lib.hid (HL.out.at hb)
  replace HL1 := Lib.hid (HL1.out.at hb)
  replace HLd := Lib.hid (HLd.out.at hb)
  replace HL2 := Lib.hid (HL2.out.at hb)
  replace HLt := Lib.hid (HLt.out.at hb)
  replace HM := Lib.hid (HM.out.at hb)
  replace HPV := Lib.hid (HPV.out.at hb)
  replace HN := Lib.hid (HN.out.at hb)
  replace HAB := Lib.hid (HAB.out.at hb)
  replace HO := Lib.hid (HO.out.at hb)
  replace HX := Lib.hid (HX.out.at hb)
  replace HZ := Lib.hid (HZ.out.at hb)
  have HC10 := Lib.hid (below_step hb HC9.out)
  clear hb
  refine wpAnyH_take1 (i := 0) (oi := _) (v := ?_) (by as_aux_lemma => kernel_rfl) rfl (by as_aux_lemma => kernel_rfl) (fun _ _ _ h => h) (Or.inl ⟨by rfl, ?_⟩) hHeld ?_
  rotate_left 1
  · intro y hSw; (try dsimp only at hSw); go_simp; (with_reducible rfl)
  (try simp only [Act.put, List.getElem_toArray, List.getElem_cons_zero, List.setIfInBounds_toArray, List.set_cons_zero, List.set_cons_succ])
  refine wpAnyH_one (i := 1) (by as_aux_lemma => kernel_rfl) rfl (by rfl) fun K hK => ?_
  go_simp
  refine (RightP12_spec HL.out).mono ?_
  rintro e w11 ⟨rfl, hb⟩
  rw [hd_w1]
  replace hb := below_step hb (Seq.way : Below w10.heap.size w10 _)
  have HC11 := Lib.hid (below_step hb HC10.out)
  (try dsimp only)
  clear hHeld
  refine hK.out _ _ (KF HC11.out).out fun hHeld => ?_
  clear hK K
  (try simp only [Act.put, List.getElem_toArray, List.getElem_cons_zero, List.getElem_cons_succ, List.setIfInBounds_toArray, List.set_cons_zero, List.set_cons_succ])
  replace H0 := Lib.hid (H0.out.at hb)
  replace H1 := Lib.hid (H1.out.at hb)
  replace H2 := Lib.hid (H2.out.at hb)
  replace HL := Lib.hid (HL.out.at hb)
  replace HL1 := Lib.hid (HL1.out.at hb)
  replace HLd := Lib.hid (HLd.out.at hb)
  replace HL2 := Lib.hid (HL2.out.at hb)
  replace HLt := Lib.hid (HLt.out.at hb)
  replace HM := Lib.hid (HM.out.at hb)
  replace HPV := Lib.hid (HPV.out.at hb)
  replace HN := Lib.hid (HN.out.at hb)
  replace HAB := Lib.hid (HAB.out.at hb)
  replace HO := Lib.hid (HO.out.at hb)
  replace HX := Lib.hid (HX.out.at hb)
  replace HZ := Lib.hid (HZ.out.at hb)
  clear hb
  refine wpAnyH_take1 (i := 2) (oi := _) (v := ?_) (by as_aux_lemma => kernel_rfl) rfl (by as_aux_lemma => kernel_rfl) (fun _ _ _ h => h) (Or.inl ⟨by rfl, ?_⟩) hHeld ?_
  rotate_left 1
  · intro y hSw; (try dsimp only at hSw); go_simp; (with_reducible rfl)
  (try simp only [Act.put, List.getElem_toArray, List.getElem_cons_zero, List.getElem_cons_succ, List.setIfInBounds_toArray, List.set_cons_zero, List.set_cons_succ])
  refine wpAnyH_take1 (i := 3) (oi := _) (v := ?_) (by as_aux_lemma => kernel_rfl) rfl (by as_aux_lemma => kernel_rfl) (fun _ _ _ h => h) (Or.inl ⟨by rfl, ?_⟩) hHeld ?_
  rotate_left 1
  · intro y hSw; (try dsimp only at hSw); go_simp; (with_reducible rfl)
  (try simp only [Act.put, List.getElem_toArray, List.getElem_cons_zero, List.getElem_cons_succ, List.setIfInBounds_toArray, List.set_cons_zero, List.set_cons_succ])
  refine wpAnyH_take1 (i := 4) (oi := _) (v := ?_) (by as_aux_lemma => kernel_rfl) rfl (by as_aux_lemma => kernel_rfl) (fun _ _ _ h => h) (Or.inl ⟨by rfl, ?_⟩) hHeld ?_
  rotate_left 1
  · intro y hSw; (try dsimp only at hSw); go_simp; (with_reducible rfl)
  (try simp only [Act.put, List.getElem_toArray, List.getElem_cons_zero, List.getElem_cons_succ, List.setIfInBounds_toArray, List.set_cons_zero, List.set_cons_succ])
  refine wpAnyH_take1 (i := 5) (oi := _) (v := ?_) (by as_aux_lemma => kernel_rfl) rfl (by as_aux_lemma => kernel_rfl) (fun _ _ _ h => h) (Or.inl ⟨by rfl, ?_⟩) hHeld ?_
  rotate_left 1
  · intro y hSw; (try dsimp only at hSw); go_simp; (with_reducible rfl)
  (try simp only [Act.put, List.getElem_toArray, List.getElem_cons_zero, List.getElem_cons_succ, List.setIfInBounds_toArray, List.set_cons_zero, List.set_cons_succ])
  refine wpAnyH_take1 (i := 6) (oi := _) (v := ?_) (by as_aux_lemma => kernel_rfl) rfl (by as_aux_lemma => kernel_rfl) (fun _ _ _ h => h) (Or.inl ⟨by rfl, ?_⟩) hHeld ?_
  rotate_left 1
  · intro y hSw; (try dsimp only at hSw); go_simp; (with_reducible rfl)
  (try simp only [Act.put, List.getElem_toArray, List.getElem_cons_zero, List.getElem_cons_succ, List.setIfInBounds_toArray, List.set_cons_zero, List.set_cons_succ])
  refine wpAnyH_take1 (i := 7) (oi := _) (v := ?_) (by as_aux_lemma => kernel_rfl) rfl (by as_aux_lemma => kernel_rfl) (fun _ _ _ h => h) (Or.inl ⟨by rfl, ?_⟩) hHeld ?_
  rotate_left 1
  · intro y hSw; (try dsimp only at hSw); go_simp; (with_reducible rfl)
  (try simp only [Act.put, List.getElem_toArray, List.getElem_cons_zero, List.getElem_cons_succ, List.setIfInBounds_toArray, List.set_cons_zero, List.set_cons_succ])
  refine wpAnyH_take1 (i := 8) (oi := _) (v := ?_) (by as_aux_lemma => kernel_rfl) rfl (by as_aux_lemma => kernel_rfl) (fun _ _ _ h => h) (Or.inl ⟨by rfl, ?_⟩) hHeld ?_
  rotate_left 1
  · intro y hSw; (try dsimp only at hSw); go_simp; (with_reducible rfl)
  (try simp only [Act.put, List.getElem_toArray, List.getElem_cons_zero, List.getElem_cons_succ, List.setIfInBounds_toArray, List.set_cons_zero, List.set_cons_succ])
  refine wpAnyH_one (i := 9) (by as_aux_lemma => kernel_rfl) rfl (by rfl) fun K hK => ?_
  go_simp
  (try dsimp only)
  clear hHeld
  refine hK.out _ _ (KF (below_step Seq.way HC11.out)).out fun hHeld => ?_
  clear hK K
  (try simp only [Act.put, List.getElem_toArray, List.getElem_cons_zero, List.getElem_cons_succ, List.setIfInBounds_toArray, List.set_cons_zero, List.set_cons_succ])
  refine wpAnyH_one (i := 10) (by as_aux_lemma => kernel_rfl) rfl (by rfl) fun K hK => ?_
  go_simp
  refine (RightP12_spec (S := fun _ => True) (l := [g1, g0]) (rows2 (T := 24) (Row.new w11 [_, _] _ rfl) (H1.out.at Seq.way) (H0.out.at Seq.way))).mono ?_
  rintro e w12 ⟨rfl, hb⟩
  rw [hd_w2]
  replace hb := below_step hb (Seq.way : Below w11.heap.size w11 _)
  have HC12 := Lib.hid (below_step hb HC11.out)
  (try dsimp only)
  clear hHeld
  refine hK.out _ _ (KF HC12.out).out fun hHeld => ?_
  clear hK K
  (try simp only [Act.put, List.getElem_toArray, List.getElem_cons_zero, List.getElem_cons_succ, List.setIfInBounds_toArray, List.set_cons_zero, List.set_cons_succ])
  replace H0 := Lib.hid (H0.out.at hb)
  replace H1 := Lib.hid (H1.out.at hb)
  replace H2 := Lib.hid (H2.out.at hb)
  replace HL := Lib.hid (HL.out.at hb)
  replace HL1 := Lib.hid (HL1.out.at hb)
  replace HLd := Lib.hid (HLd.out.at hb)
  replace HL2 := Lib.hid (HL2.out.at hb)
  replace HLt := Lib.hid (HLt.out.at hb)
  replace HM := Lib.hid (HM.out.at hb)
  replace HPV := Lib.hid (HPV.out.at hb)
  replace HN := Lib.hid (HN.out.at hb)
  replace HAB := Lib.hid (HAB.out.at hb)
  replace HO := Lib.hid (HO.out.at hb)
  replace HX := Lib.hid (HX.out.at hb)
  replace HZ := Lib.hid (HZ.out.at hb)
  clear hb
  refine wpAnyH_take1 (i := 11) (oi := _) (v := ?_) (by as_aux_lemma => kernel_rfl) rfl (by as_aux_lemma => kernel_rfl) (fun _ _ _ h => h) (Or.inl ⟨by rfl, ?_⟩) hHeld ?_
  rotate_left 1
  · intro y hSw; (try dsimp only at hSw); go_simp; (with_reducible rfl)
  (try simp only [Act.put, List.getElem_toArray, List.getElem_cons_zero, List.getElem_cons_succ, List.setIfInBounds_toArray, List.set_cons_zero, List.set_cons_succ])
  refine wpAnyH_take1 (i := 12) (oi := _) (v := ?_) (by as_aux_lemma => kernel_rfl) rfl (by as_aux_lemma => kernel_rfl) (fun _ _ _ h => h) (Or.inl ⟨by rfl, ?_⟩) hHeld ?_
  rotate_left 1
  · intro y hSw; (try dsimp only at hSw); go_simp; (with_reducible rfl)
  (try simp only [Act.put, List.getElem_toArray, List.getElem_cons_zero, List.getElem_cons_succ, List.setIfInBounds_toArray, List.set_cons_zero, List.set_cons_succ])
  refine wpAnyH_take1 (i := 13) (oi := _) (v := ?_) (by as_aux_lemma => kernel_rfl) rfl (by as_aux_lemma => kernel_rfl) (fun _ _ _ h => h) (Or.inl ⟨by rfl, ?_⟩) hHeld ?_
  rotate_left 1
  · intro y hSw; (try dsimp only at hSw); go_simp; (with_reducible rfl)
  (try simp only [Act.put, List.getElem_toArray, List.getElem_cons_zero, List.getElem_cons_succ, List.setIfInBounds_toArray, List.set_cons_zero, List.set_cons_succ])
  refine wpAnyH_take1 (i := 14) (oi := _) (v := ?_) (by as_aux_lemma => kernel_rfl) rfl (by as_aux_lemma => kernel_rfl) (fun _ _ _ h => h) (Or.inl ⟨by rfl, ?_⟩) hHeld ?_
  rotate_left 1
  · intro y hSw; (try dsimp only at hSw); go_simp; (with_reducible rfl)
  (try simp only [Act.put, List.getElem_toArray, List.getElem_cons_zero, List.getElem_cons_succ, List.setIfInBounds_toArray, List.set_cons_zero, List.set_cons_succ])
  refine wpAnyH_take1 (i := 15) (oi := _) (v := ?_) (by as_aux_lemma => kernel_rfl) rfl (by as_aux_lemma => kernel_rfl) (fun _ _ _ h => h) (Or.inl ⟨by rfl, ?_⟩) hHeld ?_
  rotate_left 1
  · intro y hSw; (try dsimp only at hSw); go_simp; (with_reducible rfl)
  (try simp only [Act.put, List.getElem_toArray, List.getElem_cons_zero, List.getElem_cons_succ, List.setIfInBounds_toArray, List.set_cons_zero, List.set_cons_succ])
  refine wpAnyH_take1 (i := 16) (oi := _) (v := ?_) (by as_aux_lemma => kernel_rfl) rfl (by as_aux_lemma => kernel_rfl) (fun _ _ _ h => h) (Or.inl ⟨by rfl, ?_⟩) hHeld ?_
  rotate_left 1
  · intro y hSw; (try dsimp only at hSw); go_simp; (with_reducible rfl)
  (try simp only [Act.put, List.getElem_toArray, List.getElem_cons_zero, List.getElem_cons_succ, List.setIfInBounds_toArray, List.set_cons_zero, List.set_cons_succ])
  refine wpAnyH_take1 (i := 17) (oi := _) (v := ?_) (by as_aux_lemma => kernel_rfl) rfl (by as_aux_lemma => kernel_rfl) (fun _ _ _ h => h) (Or.inl ⟨by rfl, ?_⟩) hHeld ?_
  rotate_left 1
  · intro y hSw; (try dsimp only at hSw); go_simp; (with_reducible rfl)
  (try simp only [Act.put, List.getElem_toArray, List.getElem_cons_zero, List.getElem_cons_succ, List.setIfInBounds_toArray, List.set_cons_zero, List.set_cons_succ])
  refine wpAnyH_take1 (i := 18) (oi := _) (v := ?_) (by as_aux_lemma => kernel_rfl) rfl (by as_aux_lemma => kernel_rfl) (fun _ _ _ h => h) (Or.inl ⟨by rfl, ?_⟩) hHeld ?_
  rotate_left 1
  · intro y hSw; (try dsimp only at hSw); go_simp; (with_reducible rfl)
  (try simp only [Act.put, List.getElem_toArray, List.getElem_cons_zero, List.getElem_cons_succ, List.setIfInBounds_toArray, List.set_cons_zero, List.set_cons_succ])
  refine wpAnyH_take1 (i := 19) (oi := _) (v := ?_) (by as_aux_lemma => kernel_rfl) rfl (by as_aux_lemma => kernel_rfl) (fun _ _ _ h => h) (Or.inl ⟨by rfl, ?_⟩) hHeld ?_
  rotate_left 1
  · intro y hSw; (try dsimp only at hSw); go_simp; (with_reducible rfl)
  (try simp only [Act.put, List.getElem_toArray, List.getElem_cons_zero, List.getElem_cons_succ, List.setIfInBounds_toArray, List.set_cons_zero, List.set_cons_succ])
  refine wpAnyH_one (i := 20) (by as_aux_lemma => kernel_rfl) rfl (by rfl) fun K hK => ?_
  go_simp
  (try dsimp only)
  clear hHeld
  refine hK.out _ _ (KF (below_step Seq.way HC12.out)).out fun hHeld => ?_
  clear hK K
  (try simp only [Act.put, List.getElem_toArray, List.getElem_cons_zero, List.getElem_cons_succ, List.setIfInBounds_toArray, List.set_cons_zero, List.set_cons_succ])
  refine wpAnyH_one (i := 21) (by as_aux_lemma => kernel_rfl) rfl (by rfl) fun K hK => ?_
  go_simp
  refine (RightP12_spec (S := fun _ => True) (l := [g0, g0]) (rows2 (T := 24) (Row.new w12 [_, _] _ rfl) (H0.out.at Seq.way) (H0.out.at Seq.way))).mono ?_
  rintro e w13 ⟨rfl, hb⟩
  rw [hd_w3]
  replace hb := below_step hb (Seq.way : Below w12.heap.size w12 _)
  have HC13 := Lib.hid (below_step hb HC12.out)
  (try dsimp only)
  clear hHeld
  refine hK.out _ _ (KF HC13.out).out fun hHeld => ?_
  clear hK K
  (try simp only [Act.put, List.getElem_toArray, List.getElem_cons_zero, List.getElem_cons_succ, List.setIfInBounds_toArray, List.set_cons_zero, List.set_cons_succ])
  replace H0 := Lib.hid (H0.out.at hb)
  replace H1 := Lib.hid (H1.out.at hb)
  replace H2 := Lib.hid (H2.out.at hb)
  replace HL := Lib.hid (HL.out.at hb)
  replace HL1 := Lib.hid (HL1.out.at hb)
  replace HLd := Lib.hid (HLd.out.at hb)
  replace HL2 := Lib.hid (HL2.out.at hb)
  replace HLt := Lib.hid (HLt.out.at hb)
  replace HM := Lib.hid (HM.out.at hb)
  replace HPV := Lib.hid (HPV.out.at hb)
  replace HN := Lib.hid (HN.out.at hb)
  replace HAB := Lib.hid (HAB.out.at hb)
  replace HO := Lib.hid (HO.out.at hb)
  replace HX := Lib.hid (HX.out.at hb)
  replace HZ := Lib.hid (HZ.out.at hb)
  clear hb
  refine wpAnyH_take1 (i := 22) (oi := _) (v := ?_) (by as_aux_lemma => kernel_rfl) rfl (by as_aux_lemma => kernel_rfl) (fun _ _ _ h => h) (Or.inl ⟨by rfl, ?_⟩) hHeld ?_
  rotate_left 1
  · intro y hSw; (try dsimp only at hSw); go_simp; (with_reducible rfl)
  (try simp only [Act.put, List.getElem_toArray, List.getElem_cons_zero, List.getElem_cons_succ, List.setIfInBounds_toArray, List.set_cons_zero, List.set_cons_succ])
  refine wpAnyH_take1 (i := 23) (oi := _) (v := ?_) (by as_aux_lemma => kernel_rfl) rfl (by as_aux_lemma => kernel_rfl) (fun _ _ _ h => h) (Or.inl ⟨by rfl, ?_⟩) hHeld ?_
  rotate_left 1
  · intro y hSw; (try dsimp only at hSw); go_simp; (with_reducible rfl)
  (try simp only [Act.put, List.getElem_toArray, List.getElem_cons_zero, List.getElem_cons_succ, List.setIfInBounds_toArray, List.set_cons_zero, List.set_cons_succ])
  refine wpAnyH_take1 (i := 24) (oi := _) (v := ?_) (by as_aux_lemma => kernel_rfl) rfl (by as_aux_lemma => kernel_rfl) (fun _ _ _ h => h) (Or.inl ⟨by rfl, ?_⟩) hHeld ?_
  rotate_left 1
  · intro y hSw; (try dsimp only at hSw); go_simp; (with_reducible rfl)
  (try simp only [Act.put, List.getElem_toArray, List.getElem_cons_zero, List.getElem_cons_succ, List.setIfInBounds_toArray, List.set_cons_zero, List.set_cons_succ])
  refine wpAnyH_take1 (i := 25) (oi := _) (v := ?_) (by as_aux_lemma => kernel_rfl) rfl (by as_aux_lemma => kernel_rfl) (fun _ _ _ h => h) (Or.inl ⟨by rfl, ?_⟩) hHeld ?_
  rotate_left 1
  · intro y hSw; (try dsimp only at hSw); go_simp; (with_reducible rfl)
  (try simp only [Act.put, List.getElem_toArray, List.getElem_cons_zero, List.getElem_cons_succ, List.setIfInBounds_toArray, List.set_cons_zero, List.set_cons_succ])
  refine wpAnyH_take1 (i := 26) (oi := _) (v := ?_) (by as_aux_lemma => kernel_rfl) rfl (by as_aux_lemma => kernel_rfl) (fun _ _ _ h => h) (Or.inl ⟨by rfl, ?_⟩) hHeld ?_
  rotate_left 1
  · intro y hSw; (try dsimp only at hSw); go_simp; (with_reducible rfl)
  (try simp only [Act.put, List.getElem_toArray, List.getElem_cons_zero, List.getElem_cons_succ, List.setIfInBounds_toArray, List.set_cons_zero, List.set_cons_succ])
  refine wpAnyH_take1 (i := 27) (oi := _) (v := ?_) (by as_aux_lemma => kernel_rfl) rfl (by as_aux_lemma => kernel_rfl) (fun _ _ _ h => h) (Or.inl ⟨by rfl, ?_⟩) hHeld ?_
  rotate_left 1
  · intro y hSw; (try dsimp only at hSw); go_simp; (with_reducible rfl)
  (try simp only [Act.put, List.getElem_toArray, List.getElem_cons_zero, List.getElem_cons_succ, List.setIfInBounds_toArray, List.set_cons_zero, List.set_cons_succ])
  refine wpAnyH_one (i := 28) (by as_aux_lemma => kernel_rfl) rfl (by rfl) fun K hK => ?_
  go_simp
  refine (FactP_spec H2.out).mono ?_
  rintro e w14 ⟨rfl, hb⟩
  rw [hd_f2]
  replace hb := below_step hb (Seq.way : Below w13.heap.size w13 _)
  have HC14 := Lib.hid (below_step hb HC13.out)
  (try dsimp only)
  clear hHeld
  refine hK.out _ _ (KF HC14.out).out fun hHeld => ?_
  clear hK K
  (try simp only [Act.put, List.getElem_toArray, List.getElem_cons_zero, List.getElem_cons_succ, List.setIfInBounds_toArray, List.set_cons_zero, List.set_cons_succ])
  replace H0 := Lib.hid (H0.out.at hb)
  replace H1 := Lib.hid (H1.out.at hb)
  replace H2 := Lib.hid (H2.out.at hb)
  replace HL := Lib.hid (HL.out.at hb)
  replace HL1 := Lib.hid (HL1.out.at hb)
  replace HLd := Lib.hid (HLd.out.at hb)
  replace HL2 := Lib.hid (HL2.out.at hb)
  replace HLt := Lib.hid (HLt.out.at hb)
  replace HM := Lib.hid (HM.out.at hb)
  replace HPV := Lib.hid (HPV.out.at hb)
  replace HN := Lib.hid (HN.out.at hb)
  replace HAB := Lib.hid (HAB.out.at hb)
  replace HO := Lib.hid (HO.out.at hb)
  replace HX := Lib.hid (HX.out.at hb)
  replace HZ := Lib.hid (HZ.out.at hb)
  clear hb
  refine wpAnyH_take1 (i := 29) (oi := _) (v := ?_) (by as_aux_lemma => kernel_rfl) rfl (by as_aux_lemma => kernel_rfl) (fun _ _ _ h => h) (Or.inl ⟨by rfl, ?_⟩) hHeld ?_
  rotate_left 1
  · intro y hSw; (try dsimp only at hSw); go_simp; (with_reducible rfl)
  (try simp only [Act.put, List.getElem_toArray, List.getElem_cons_zero, List.getElem_cons_succ, List.setIfInBounds_toArray, List.set_cons_zero, List.set_cons_succ])
  refine wpAnyH_take1 (i := 30) (oi := _) (v := ?_) (by as_aux_lemma => kernel_rfl) rfl (by as_aux_lemma => kernel_rfl) (fun _ _ _ h => h) (Or.inl ⟨by rfl, ?_⟩) hHeld ?_
  rotate_left 1
  · intro y hSw; (try dsimp only at hSw); go_simp; (with_reducible rfl)
  (try simp only [Act.put, List.getElem_toArray, List.getElem_cons_zero, List.getElem_cons_succ, List.setIfInBounds_toArray, List.set_cons_zero, List.set_cons_succ])
  refine wpAnyH_one (i := 31) (by as_aux_lemma => kernel_rfl) rfl (by rfl) fun K hK => ?_
  go_simp
  refine (FactP_spec (Seq.nil cellE (fun _ => True) _)).mono ?_
  rintro e w15 ⟨rfl, hb⟩
  rw [hd_fn]
  replace hb := below_step hb (Seq.way : Below w14.heap.size w14 _)
  have HC15 := Lib.hid (below_step hb HC14.out)
  (try dsimp only)
  clear hHeld
  refine hK.out _ _ (KF HC15.out).out fun hHeld => ?_
  clear hK K
  (try simp only [Act.put, List.getElem_toArray, List.getElem_cons_zero, List.getElem_cons_succ, List.setIfInBounds_toArray, List.set_cons_zero, List.set_cons_succ])
  replace H0 := Lib.hid (H0.out.at hb)
  replace H1 := Lib.hid (H1.out.at hb)
  replace H2 := Lib.hid (H2.out.at hb)
  replace HL := Lib.hid (HL.out.at hb)
  replace HL1 := Lib.hid (HL1.out.at hb)
  replace HLd := Lib.hid (HLd.out.at hb)
  replace HL2 := Lib.hid (HL2.out.at hb)
  replace HLt := Lib.hid (HLt.out.at hb)
  replace HM := Lib.hid (HM.out.at hb)
  replace HPV := Lib.hid (HPV.out.at hb)
  replace HN := Lib.hid (HN.out.at hb)
  replace HAB := Lib.hid (HAB.out.at hb)
  replace HO := Lib.hid (HO.out.at hb)
  replace HX := Lib.hid (HX.out.at hb)
  replace HZ := Lib.hid (HZ.out.at hb)
  clear hb
  refine wpAnyH_take1 (i := 32) (oi := _) (v := ?_) (by as_aux_lemma => kernel_rfl) rfl (by as_aux_lemma => kernel_rfl) (fun _ _ _ h => h) (Or.inl ⟨by rfl, ?_⟩) hHeld ?_
  rotate_left 1
  · intro y hSw; (try dsimp only at hSw); go_simp; (with_reducible rfl)
  (try simp only [Act.put, List.getElem_toArray, List.getElem_cons_zero, List.getElem_cons_succ, List.setIfInBounds_toArray, List.set_cons_zero, List.set_cons_succ])
  refine wpAnyH_take1 (i := 33) (oi := _) (v := ?_) (by as_aux_lemma => kernel_rfl) rfl (by as_aux_lemma => kernel_rfl) (fun _ _ _ h => h) (Or.inl ⟨by rfl, ?_⟩) hHeld ?_
  rotate_left 1
  · intro y hSw; (try dsimp only at hSw); go_simp; (with_reducible rfl)
  (try simp only [Act.put, List.getElem_toArray, List.getElem_cons_zero, List.getElem_cons_succ, List.setIfInBounds_toArray, List.set_cons_zero, List.set_cons_succ])
  refine wpAnyH_take1 (i := 34) (oi := _) (v := ?_) (by as_aux_lemma => kernel_rfl) rfl (by as_aux_lemma => kernel_rfl) (fun _ _ _ h => h) (Or.inl ⟨by rfl, ?_⟩) hHeld ?_
  rotate_left 1
  · intro y hSw; (try dsimp only at hSw); go_simp; (with_reducible rfl)
  (try simp only [Act.put, List.getElem_toArray, List.getElem_cons_zero, List.getElem_cons_succ, List.setIfInBounds_toArray, List.set_cons_zero, List.set_cons_succ])
  refine wpAnyH_take1 (i := 35) (oi := _) (v := ?_) (by as_aux_lemma => kernel_rfl) rfl (by as_aux_lemma => kernel_rfl) (fun _ _ _ h => h) (Or.inl ⟨by rfl, ?_⟩) hHeld ?_
  rotate_left 1
  · intro y hSw; (try dsimp only at hSw); go_simp; (with_reducible rfl)
  (try simp only [Act.put, List.getElem_toArray, List.getElem_cons_zero, List.getElem_cons_succ, List.setIfInBounds_toArray, List.set_cons_zero, List.set_cons_succ])
  refine wpAnyH_take1 (i := 36) (oi := _) (v := ?_) (by as_aux_lemma => kernel_rfl) rfl (by as_aux_lemma => kernel_rfl) (fun _ _ _ h => h) (Or.inl ⟨by rfl, ?_⟩) hHeld ?_
  rotate_left 1
  · intro y hSw; (try dsimp only at hSw); go_simp; (with_reducible rfl)
  (try simp only [Act.put, List.getElem_toArray, List.getElem_cons_zero, List.getElem_cons_succ, List.setIfInBounds_toArray, List.set_cons_zero, List.set_cons_succ])
  refine wpAnyH_one (i := 37) (by as_aux_lemma => kernel_rfl) rfl (by rfl) fun K hK => ?_
  go_simp
  refine (SameR12_spec HM.out HL.out).mono ?_
  rintro e w16 ⟨rfl, hq⟩
  have hb := hq.belowS
  clear hq
  rw [decide_eq_true (show ([g0, g1, g2] : List (List Cell)) = [g0, g1, g2] from rfl)]
  replace hb := below_step hb (Seq.way : Below w15.heap.size w15 _)
  have HC16 := Lib.hid (below_step hb HC15.out)
  (try dsimp only)
  clear hHeld
  refine hK.out _ _ (KF HC16.out).out fun hHeld => ?_
  clear hK K
  (try simp only [Act.put, List.getElem_toArray, List.getElem_cons_zero, List.getElem_cons_succ, List.setIfInBounds_toArray, List.set_cons_zero, List.set_cons_succ])
  replace H0 := Lib.hid (H0.out.at hb)
  replace H1 := Lib.hid (H1.out.at hb)
  replace H2 := Lib.hid (H2.out.at hb)
  replace HL := Lib.hid (HL.out.at hb)
  replace HL1 := Lib.hid (HL1.out.at hb)
  replace HLd := Lib.hid (HLd.out.at hb)
  replace HL2 := Lib.hid (HL2.out.at hb)
  replace HLt := Lib.hid (HLt.out.at hb)
  replace HM := Lib.hid (HM.out.at hb)
  replace HPV := Lib.hid (HPV.out.at hb)
  replace HN := Lib.hid (HN.out.at hb)
  replace HAB := Lib.hid (HAB.out.at hb)
  replace HO := Lib.hid (HO.out.at hb)
  replace HX := Lib.hid (HX.out.at hb)
  replace HZ := Lib.hid (HZ.out.at hb)
  clear hb
  refine wpAnyH_take1 (i := 38) (oi := _) (v := ?_) (by as_aux_lemma => kernel_rfl) rfl (by as_aux_lemma => kernel_rfl) (fun _ _ _ h => h) (Or.inl ⟨by rfl, ?_⟩) hHeld ?_
  rotate_left 1
  · intro y hSw; (try dsimp only at hSw); go_simp; (with_reducible rfl)
  (try simp only [Act.put, List.getElem_toArray, List.getElem_cons_zero, List.getElem_cons_succ, List.setIfInBounds_toArray, List.set_cons_zero, List.set_cons_succ])
  refine wpAnyH_take1 (i := 39) (oi := _) (v := ?_) (by as_aux_lemma => kernel_rfl) rfl (by as_aux_lemma => kernel_rfl) (fun _ _ _ h => h) (Or.inl ⟨by rfl, ?_⟩) hHeld ?_
  rotate_left 1
  · intro y hSw; (try dsimp only at hSw); go_simp; (with_reducible rfl)
  (try simp only [Act.put, List.getElem_toArray, List.getElem_cons_zero, List.getElem_cons_succ, List.setIfInBounds_toArray, List.set_cons_zero, List.set_cons_succ])
  refine wpAnyH_take1 (i := 40) (oi := _) (v := ?_) (by as_aux_lemma => kernel_rfl) rfl (by as_aux_lemma => kernel_rfl) (fun _ _ _ h => h) (Or.inl ⟨by rfl, ?_⟩) hHeld ?_
  rotate_left 1
  · intro y hSw; (try dsimp only at hSw); go_simp; (with_reducible rfl)
  (try simp only [Act.put, List.getElem_toArray, List.getElem_cons_zero, List.getElem_cons_succ, List.setIfInBounds_toArray, List.set_cons_zero, List.set_cons_succ])
  refine wpAnyH_take1 (i := 41) (oi := _) (v := ?_) (by as_aux_lemma => kernel_rfl) rfl (by as_aux_lemma => kernel_rfl) (fun _ _ _ h => h) (Or.inl ⟨by rfl, ?_⟩) hHeld ?_
  rotate_left 1
  · intro y hSw; (try dsimp only at hSw); go_simp; (with_reducible rfl)
  (try simp only [Act.put, List.getElem_toArray, List.getElem_cons_zero, List.getElem_cons_succ, List.setIfInBounds_toArray, List.set_cons_zero, List.set_cons_succ])
  refine wpAnyH_take1 (i := 42) (oi := _) (v := ?_) (by as_aux_lemma => kernel_rfl) rfl (by as_aux_lemma => kernel_rfl) (fun _ _ _ h => h) (Or.inl ⟨by rfl, ?_⟩) hHeld ?_
  rotate_left 1
  · intro y hSw; (try dsimp only at hSw); go_simp; (with_reducible rfl)
  (try simp only [Act.put, List.getElem_toArray, List.getElem_cons_zero, List.getElem_cons_succ, List.setIfInBounds_toArray, List.set_cons_zero, List.set_cons_succ])
  refine wpAnyH_take1 (i := 43) (oi := _) (v := ?_) (by as_aux_lemma => kernel_rfl) rfl (by as_aux_lemma => kernel_rfl) (fun _ _ _ h => h) (Or.inl ⟨by rfl, ?_⟩) hHeld ?_
  rotate_left 1
  · intro y hSw; (try dsimp only at hSw); go_simp; (with_reducible rfl)
  (try simp only [Act.put, List.getElem_toArray, List.getElem_cons_zero, List.getElem_cons_succ, List.setIfInBounds_toArray, List.set_cons_zero, List.set_cons_succ])
  refine wpAnyH_take1 (i := 44) (oi := _) (v := ?_) (by as_aux_lemma => kernel_rfl) rfl (by as_aux_lemma => kernel_rfl) (fun _ _ _ h => h) (Or.inl ⟨by rfl, ?_⟩) hHeld ?_
  rotate_left 1
  · intro y hSw; (try dsimp only at hSw); go_simp; (with_reducible rfl)
  (try simp only [Act.put, List.getElem_toArray, List.getElem_cons_zero, List.getElem_cons_succ, List.setIfInBounds_toArray, List.set_cons_zero, List.set_cons_succ])
  refine wpAnyH_take1 (i := 45) (oi := _) (v := ?_) (by as_aux_lemma => kernel_rfl) rfl (by as_aux_lemma => kernel_rfl) (fun _ _ _ h => h) (Or.inl ⟨by rfl, ?_⟩) hHeld ?_
  rotate_left 1
  · intro y hSw; (try dsimp only at hSw); go_simp; (with_reducible rfl)
  (try simp only [Act.put, List.getElem_toArray, List.getElem_cons_zero, List.getElem_cons_succ, List.setIfInBounds_toArray, List.set_cons_zero, List.set_cons_succ])
  refine wpAnyH_take1 (i := 46) (oi := _) (v := ?_) (by as_aux_lemma => kernel_rfl) rfl (by as_aux_lemma => kernel_rfl) (fun _ _ _ h => h) (Or.inl ⟨by rfl, ?_⟩) hHeld ?_
  rotate_left 1
  · intro y hSw; (try dsimp only at hSw); go_simp; (with_reducible rfl)
  (try simp only [Act.put, List.getElem_toArray, List.getElem_cons_zero, List.getElem_cons_succ, List.setIfInBounds_toArray, List.set_cons_zero, List.set_cons_succ])
  refine wpAnyH_take1 (i := 47) (oi := _) (v := ?_) (by as_aux_lemma => kernel_rfl) rfl (by as_aux_lemma => kernel_rfl) (fun _ _ _ h => h) (Or.inl ⟨by rfl, ?_⟩) hHeld ?_
  rotate_left 1
  · intro y hSw; (try dsimp only at hSw); go_simp; (with_reducible rfl)
  (try simp only [Act.put, List.getElem_toArray, List.getElem_cons_zero, List.getElem_cons_succ, List.setIfInBounds_toArray, List.set_cons_zero, List.set_cons_succ])
  refine wpAnyH_take1 (i := 48) (oi := _) (v := ?_) (by as_aux_lemma => kernel_rfl) rfl (by as_aux_lemma => kernel_rfl) (fun _ _ _ h => h) (Or.inl ⟨by rfl, ?_⟩) hHeld ?_
  rotate_left 1
  · intro y hSw; (try dsimp only at hSw); go_simp; (with_reducible rfl)
  (try simp only [Act.put, List.getElem_toArray, List.getElem_cons_zero, List.getElem_cons_succ, List.setIfInBounds_toArray, List.set_cons_zero, List.set_cons_succ])
  refine wpAnyH_take1 (i := 49) (oi := _) (v := ?_) (by as_aux_lemma => kernel_rfl) rfl (by as_aux_lemma => kernel_rfl) (fun _ _ _ h => h) (Or.inl ⟨by rfl, ?_⟩) hHeld ?_
  rotate_left 1
  · intro y hSw; (try dsimp only at hSw); go_simp; (with_reducible rfl)
  (try simp only [Act.put, List.getElem_toArray, List.getElem_cons_zero, List.getElem_cons_succ, List.setIfInBounds_toArray, List.set_cons_zero, List.set_cons_succ])
  refine wpAnyH_take1 (i := 50) (oi := _) (v := ?_) (by as_aux_lemma => kernel_rfl) rfl (by as_aux_lemma => kernel_rfl) (fun _ _ _ h => h) (Or.inl ⟨by rfl, ?_⟩) hHeld ?_
  rotate_left 1
  · intro y hSw; (try dsimp only at hSw); go_simp; (with_reducible rfl)
  (try simp only [Act.put, List.getElem_toArray, List.getElem_cons_zero, List.getElem_cons_succ, List.setIfInBounds_toArray, List.set_cons_zero, List.set_cons_succ])
  refine wpAnyH_take1 (i := 51) (oi := _) (v := ?_) (by as_aux_lemma => kernel_rfl) rfl (by as_aux_lemma => kernel_rfl) (fun _ _ _ h => h) (Or.inl ⟨by rfl, ?_⟩) hHeld ?_
  rotate_left 1
  · intro y hSw; (try dsimp only at hSw); go_simp; (with_reducible rfl)
  (try simp only [Act.put, List.getElem_toArray, List.getElem_cons_zero, List.getElem_cons_succ, List.setIfInBounds_toArray, List.set_cons_zero, List.set_cons_succ])
  refine wpAnyH_take1 (i := 52) (oi := _) (v := ?_) (by as_aux_lemma => kernel_rfl) rfl (by as_aux_lemma => kernel_rfl) (fun _ _ _ h => h) (Or.inl ⟨by rfl, ?_⟩) hHeld ?_
  rotate_left 1
  · intro y hSw; (try dsimp only at hSw); go_simp; (with_reducible rfl)
  (try simp only [Act.put, List.getElem_toArray, List.getElem_cons_zero, List.getElem_cons_succ, List.setIfInBounds_toArray, List.set_cons_zero, List.set_cons_succ])
  refine wpAnyH_take1 (i := 53) (oi := _) (v := ?_) (by as_aux_lemma => kernel_rfl) rfl (by as_aux_lemma => kernel_rfl) (fun _ _ _ h => h) (Or.inl ⟨by rfl, ?_⟩) hHeld ?_
  rotate_left 1
  · intro y hSw; (try dsimp only at hSw); go_simp; (with_reducible rfl)
  (try simp only [Act.put, List.getElem_toArray, List.getElem_cons_zero, List.getElem_cons_succ, List.setIfInBounds_toArray, List.set_cons_zero, List.set_cons_succ])
  refine wpAnyH_take1 (i := 54) (oi := _) (v := ?_) (by as_aux_lemma => kernel_rfl) rfl (by as_aux_lemma => kernel_rfl) (fun _ _ _ h => h) (Or.inl ⟨by rfl, ?_⟩) hHeld ?_
  rotate_left 1
  · intro y hSw; (try dsimp only at hSw); go_simp; (with_reducible rfl)
  (try simp only [Act.put, List.getElem_toArray, List.getElem_cons_zero, List.getElem_cons_succ, List.setIfInBounds_toArray, List.set_cons_zero, List.set_cons_succ])
  refine wpAnyH_one (i := 55) (by as_aux_lemma => kernel_rfl) rfl (by rfl) fun K hK => ?_
  go_simp
  (try dsimp only)
  clear hHeld
  refine hK.out _ _ (KF (below_step Seq.way HC16.out)).out fun hHeld => ?_
  clear hK K
  (try simp only [Act.put, List.getElem_toArray, List.getElem_cons_zero, List.getElem_cons_succ, List.setIfInBounds_toArray, List.set_cons_zero, List.set_cons_succ])
  refine wpAnyH_one (i := 56) (by as_aux_lemma => kernel_rfl) rfl (by rfl) fun K hK => ?_
  go_simp
  refine (SameR12_spec (T := fun _ => True) (b := [g0, g2]) (HN.out.at Seq.way) (rows2 (T := 24) (Row.new w16 [_, _] _ rfl) (H0.out.at Seq.way) (H2.out.at Seq.way))).mono ?_
  rintro e w17 ⟨rfl, hq⟩
  have hb := hq.belowS
  clear hq
  rw [decide_eq_true (show ([g0, g2] : List (List Cell)) = [g0, g2] from rfl)]
  replace hb := below_step hb (Seq.way : Below w16.heap.size w16 _)
  have HC17 := Lib.hid (below_step hb HC16.out)
  (try dsimp only)
  clear hHeld
  refine hK.out _ _ (KF HC17.out).out fun hHeld => ?_
  clear hK K
  (try simp only [Act.put, List.getElem_toArray, List.getElem_cons_zero, List.getElem_cons_succ, List.setIfInBounds_toArray, List.set_cons_zero, List.set_cons_succ])
  replace H0 := Lib.hid (H0.out.at hb)
  replace H1 := Lib.hid (H1.out.at hb)
  replace H2 := Lib.hid (H2.out.at hb)
  replace HL := Lib.hid (HL.out.at hb)
  replace HL1 := Lib.hid (HL1.out.at hb)
  replace HLd := Lib.hid (HLd.out.at hb)
  replace HL2 := Lib.hid (HL2.out.at hb)
  replace HLt := Lib.hid (HLt.out.at hb)
  replace HM := Lib.hid (HM.out.at hb)
  replace HPV := Lib.hid (HPV.out.at hb)
  replace HN := Lib.hid (HN.out.at hb)
  replace HAB := Lib.hid (HAB.out.at hb)
  replace HO := Lib.hid (HO.out.at hb)
  replace HX := Lib.hid (HX.out.at hb)
  replace HZ := Lib.hid (HZ.out.at hb)
  clear hb
  refine wpAnyH_take1 (i := 57) (oi := _) (v := ?_) (by as_aux_lemma => kernel_rfl) rfl (by as_aux_lemma => kernel_rfl) (fun _ _ _ h => h) (Or.inl ⟨by rfl, ?_⟩) hHeld ?_
  rotate_left 1
  · intro y hSw; (try dsimp only at hSw); go_simp; (with_reducible rfl)
  (try simp only [Act.put, List.getElem_toArray, List.getElem_cons_zero, List.getElem_cons_succ, List.setIfInBounds_toArray, List.set_cons_zero, List.set_cons_succ])
  refine wpAnyH_take1 (i := 58) (oi := _) (v := ?_) (by as_aux_lemma => kernel_rfl) rfl (by as_aux_lemma => kernel_rfl) (fun _ _ _ h => h) (Or.inl ⟨by rfl, ?_⟩) hHeld ?_
  rotate_left 1
  · intro y hSw; (try dsimp only at hSw); go_simp; (with_reducible rfl)
  (try simp only [Act.put, List.getElem_toArray, List.getElem_cons_zero, List.getElem_cons_succ, List.setIfInBounds_toArray, List.set_cons_zero, List.set_cons_succ])
  refine wpAnyH_take1 (i := 59) (oi := _) (v := ?_) (by as_aux_lemma => kernel_rfl) rfl (by as_aux_lemma => kernel_rfl) (fun _ _ _ h => h) (Or.inl ⟨by rfl, ?_⟩) hHeld ?_
  rotate_left 1
  · intro y hSw; (try dsimp only at hSw); go_simp; (with_reducible rfl)
  (try simp only [Act.put, List.getElem_toArray, List.getElem_cons_zero, List.getElem_cons_succ, List.setIfInBounds_toArray, List.set_cons_zero, List.set_cons_succ])
  refine wpAnyH_take1 (i := 60) (oi := _) (v := ?_) (by as_aux_lemma => kernel_rfl) rfl (by as_aux_lemma => kernel_rfl) (fun _ _ _ h => h) (Or.inl ⟨by rfl, ?_⟩) hHeld ?_
  rotate_left 1
  · intro y hSw; (try dsimp only at hSw); go_simp; (with_reducible rfl)
  (try simp only [Act.put, List.getElem_toArray, List.getElem_cons_zero, List.getElem_cons_succ, List.setIfInBounds_toArray, List.set_cons_zero, List.set_cons_succ])
  refine wpAnyH_take1 (i := 61) (oi := _) (v := ?_) (by as_aux_lemma => kernel_rfl) rfl (by as_aux_lemma => kernel_rfl) (fun _ _ _ h => h) (Or.inl ⟨by rfl, ?_⟩) hHeld ?_
  rotate_left 1
  · intro y hSw; (try dsimp only at hSw); go_simp; (with_reducible rfl)
  (try simp only [Act.put, List.getElem_toArray, List.getElem_cons_zero, List.getElem_cons_succ, List.setIfInBounds_toArray, List.set_cons_zero, List.set_cons_succ])
  refine wpAnyH_take1 (i := 62) (oi := _) (v := ?_) (by as_aux_lemma => kernel_rfl) rfl (by as_aux_lemma => kernel_rfl) (fun _ _ _ h => h) (Or.inl ⟨by rfl, ?_⟩) hHeld ?_
  rotate_left 1
  · intro y hSw; (try dsimp only at hSw); go_simp; (with_reducible rfl)
  (try simp only [Act.put, List.getElem_toArray, List.getElem_cons_zero, List.getElem_cons_succ, List.setIfInBounds_toArray, List.set_cons_zero, List.set_cons_succ])
  refine wpAnyH_take1 (i := 63) (oi := _) (v := ?_) (by as_aux_lemma => kernel_rfl) rfl (by as_aux_lemma => kernel_rfl) (fun _ _ _ h => h) (Or.inl ⟨by rfl, ?_⟩) hHeld ?_
  rotate_left 1
  · intro y hSw; (try dsimp only at hSw); go_simp; (with_reducible rfl)
  (try simp only [Act.put, List.getElem_toArray, List.getElem_cons_zero, List.getElem_cons_succ, List.setIfInBounds_toArray, List.set_cons_zero, List.set_cons_succ])
  refine wpAnyH_take1 (i := 64) (oi := _) (v := ?_) (by as_aux_lemma => kernel_rfl) rfl (by as_aux_lemma => kernel_rfl) (fun _ _ _ h => h) (Or.inl ⟨by rfl, ?_⟩) hHeld ?_
  rotate_left 1
  · intro y hSw; (try dsimp only at hSw); go_simp; (with_reducible rfl)
  (try simp only [Act.put, List.getElem_toArray, List.getElem_cons_zero, List.getElem_cons_succ, List.setIfInBounds_toArray, List.set_cons_zero, List.set_cons_succ])
  refine wpAnyH_take1 (i := 65) (oi := _) (v := ?_) (by as_aux_lemma => kernel_rfl) rfl (by as_aux_lemma => kernel_rfl) (fun _ _ _ h => h) (Or.inl ⟨by rfl, ?_⟩) hHeld ?_
  rotate_left 1
  · intro y hSw; (try dsimp only at hSw); go_simp; (with_reducible rfl)
  (try simp only [Act.put, List.getElem_toArray, List.getElem_cons_zero, List.getElem_cons_succ, List.setIfInBounds_toArray, List.set_cons_zero, List.set_cons_succ])
  refine wpAnyH_take1 (i := 66) (oi := _) (v := ?_) (by as_aux_lemma => kernel_rfl) rfl (by as_aux_lemma => kernel_rfl) (fun _ _ _ h => h) (Or.inl ⟨by rfl, ?_⟩) hHeld ?_
  rotate_left 1
  · intro y hSw; (try dsimp only at hSw); go_simp; (with_reducible rfl)
  (try simp only [Act.put, List.getElem_toArray, List.getElem_cons_zero, List.getElem_cons_succ, List.setIfInBounds_toArray, List.set_cons_zero, List.set_cons_succ])
  refine wpAnyH_take1 (i := 67) (oi := _) (v := ?_) (by as_aux_lemma => kernel_rfl) rfl (by as_aux_lemma => kernel_rfl) (fun _ _ _ h => h) (Or.inl ⟨by rfl, ?_⟩) hHeld ?_
  rotate_left 1
  · intro y hSw; (try dsimp only at hSw); go_simp; (with_reducible rfl)
  (try simp only [Act.put, List.getElem_toArray, List.getElem_cons_zero, List.getElem_cons_succ, List.setIfInBounds_toArray, List.set_cons_zero, List.set_cons_succ])
  refine wpAnyH_take1 (i := 68) (oi := _) (v := ?_) (by as_aux_lemma => kernel_rfl) rfl (by as_aux_lemma => kernel_rfl) (fun _ _ _ h => h) (Or.inl ⟨by rfl, ?_⟩) hHeld ?_
  rotate_left 1
  · intro y hSw; (try dsimp only at hSw); go_simp; (with_reducible rfl)
  (try simp only [Act.put, List.getElem_toArray, List.getElem_cons_zero, List.getElem_cons_succ, List.setIfInBounds_toArray, List.set_cons_zero, List.set_cons_succ])
  refine wpAnyH_take1 (i := 69) (oi := _) (v := ?_) (by as_aux_lemma => kernel_rfl) rfl (by as_aux_lemma => kernel_rfl) (fun _ _ _ h => h) (Or.inl ⟨by rfl, ?_⟩) hHeld ?_
  rotate_left 1
  · intro y hSw; (try dsimp only at hSw); go_simp; (with_reducible rfl)
  (try simp only [Act.put, List.getElem_toArray, List.getElem_cons_zero, List.getElem_cons_succ, List.setIfInBounds_toArray, List.set_cons_zero, List.set_cons_succ])
  refine wpAnyH_take1 (i := 70) (oi := _) (v := ?_) (by as_aux_lemma => kernel_rfl) rfl (by as_aux_lemma => kernel_rfl) (fun _ _ _ h => h) (Or.inl ⟨by rfl, ?_⟩) hHeld ?_
  rotate_left 1
  · intro y hSw; (try dsimp only at hSw); go_simp; (with_reducible rfl)
  (try simp only [Act.put, List.getElem_toArray, List.getElem_cons_zero, List.getElem_cons_succ, List.setIfInBounds_toArray, List.set_cons_zero, List.set_cons_succ])
  refine wpAnyH_take1 (i := 71) (oi := _) (v := ?_) (by as_aux_lemma => kernel_rfl) rfl (by as_aux_lemma => kernel_rfl) (fun _ _ _ h => h) (Or.inl ⟨by rfl, ?_⟩) hHeld ?_
  rotate_left 1
  · intro y hSw; (try dsimp only at hSw); go_simp; (with_reducible rfl)
  (try simp only [Act.put, List.getElem_toArray, List.getElem_cons_zero, List.getElem_cons_succ, List.setIfInBounds_toArray, List.set_cons_zero, List.set_cons_succ])
  refine wpAnyH_take1 (i := 72) (oi := _) (v := ?_) (by as_aux_lemma => kernel_rfl) rfl (by as_aux_lemma => kernel_rfl) (fun _ _ _ h => h) (Or.inl ⟨by rfl, ?_⟩) hHeld ?_
  rotate_left 1
  · intro y hSw; (try dsimp only at hSw); go_simp; (with_reducible rfl)
  (try simp only [Act.put, List.getElem_toArray, List.getElem_cons_zero, List.getElem_cons_succ, List.setIfInBounds_toArray, List.set_cons_zero, List.set_cons_succ])
  refine wpAnyH_one (i := 73) (by as_aux_lemma => kernel_rfl) rfl (by rfl) fun K hK => ?_
  go_simp
  refine (SameR12_spec HO.out HL.out).mono ?_
  rintro e w18 ⟨rfl, hq⟩
  have hb := hq.belowS
  clear hq
  rw [decide_eq_true (show ([g0, g1, g2] : List (List Cell)) = [g0, g1, g2] from rfl)]
  replace hb := below_step hb (Seq.way : Below w17.heap.size w17 _)
  have HC18 := Lib.hid (below_step hb HC17.out)
  (try dsimp only)
  clear hHeld
  refine hK.out _ _ (KF HC18.out).out fun hHeld => ?_
  clear hK K
  (try simp only [Act.put, List.getElem_toArray, List.getElem_cons_zero, List.getElem_cons_succ, List.setIfInBounds_toArray, List.set_cons_zero, List.set_cons_succ])
  replace H0 := Lib.hid (H0.out.at hb)
  replace H1 := Lib.hid (H1.out.at hb)
  replace H2 := Lib.hid (H2.out.at hb)
  replace HL := Lib.hid (HL.out.at hb)
  replace HL1 := Lib.hid (HL1.out.at hb)
  replace HLd := Lib.hid (HLd.out.at hb)
  replace HL2 := Lib.hid (HL2.out.at hb)
  replace HLt := Lib.hid (HLt.out.at hb)
  replace HM := Lib.hid (HM.out.at hb)
  replace HPV := Lib.hid (HPV.out.at hb)
  replace HN := Lib.hid (HN.out.at hb)
  replace HAB := Lib.hid (HAB.out.at hb)
  replace HO := Lib.hid (HO.out.at hb)
  replace HX := Lib.hid (HX.out.at hb)
  replace HZ := Lib.hid (HZ.out.at hb)
  clear hb
  refine wpAnyH_take1 (i := 74) (oi := _) (v := ?_) (by as_aux_lemma => kernel_rfl) rfl (by as_aux_lemma => kernel_rfl) (fun _ _ _ h => h) (Or.inl ⟨by rfl, ?_⟩) hHeld ?_
  rotate_left 1
  · intro y hSw; (try dsimp only at hSw); go_simp; (with_reducible rfl)
  (try simp only [Act.put, List.getElem_toArray, List.getElem_cons_zero, List.getElem_cons_succ, List.setIfInBounds_toArray, List.set_cons_zero, List.set_cons_succ])
  refine wpAnyH_take1 (i := 75) (oi := _) (v := ?_) (by as_aux_lemma => kernel_rfl) rfl (by as_aux_lemma => kernel_rfl) (fun _ _ _ h => h) (Or.inl ⟨by rfl, ?_⟩) hHeld ?_
  rotate_left 1
  · intro y hSw; (try dsimp only at hSw); go_simp; (with_reducible rfl)
  (try simp only [Act.put, List.getElem_toArray, List.getElem_cons_zero, List.getElem_cons_succ, List.setIfInBounds_toArray, List.set_cons_zero, List.set_cons_succ])
  refine wpAnyH_take1 (i := 76) (oi := _) (v := ?_) (by as_aux_lemma => kernel_rfl) rfl (by as_aux_lemma => kernel_rfl) (fun _ _ _ h => h) (Or.inl ⟨by rfl, ?_⟩) hHeld ?_
  rotate_left 1
  · intro y hSw; (try dsimp only at hSw); go_simp; (with_reducible rfl)
  (try simp only [Act.put, List.getElem_toArray, List.getElem_cons_zero, List.getElem_cons_succ, List.setIfInBounds_toArray, List.set_cons_zero, List.set_cons_succ])
  refine wpAnyH_take1 (i := 77) (oi := _) (v := ?_) (by as_aux_lemma => kernel_rfl) rfl (by as_aux_lemma => kernel_rfl) (fun _ _ _ h => h) (Or.inl ⟨by rfl, ?_⟩) hHeld ?_
  rotate_left 1
  · intro y hSw; (try dsimp only at hSw); go_simp; (with_reducible rfl)
  (try simp only [Act.put, List.getElem_toArray, List.getElem_cons_zero, List.getElem_cons_succ, List.setIfInBounds_toArray, List.set_cons_zero, List.set_cons_succ])
  refine wpAnyH_take1 (i := 78) (oi := _) (v := ?_) (by as_aux_lemma => kernel_rfl) rfl (by as_aux_lemma => kernel_rfl) (fun _ _ _ h => h) (Or.inl ⟨by rfl, ?_⟩) hHeld ?_
  rotate_left 1
  · intro y hSw; (try dsimp only at hSw); go_simp; (with_reducible rfl)
  (try simp only [Act.put, List.getElem_toArray, List.getElem_cons_zero, List.getElem_cons_succ, List.setIfInBounds_toArray, List.set_cons_zero, List.set_cons_succ])
  refine wpAnyH_take1 (i := 79) (oi := _) (v := ?_) (by as_aux_lemma => kernel_rfl) rfl (by as_aux_lemma => kernel_rfl) (fun _ _ _ h => h) (Or.inl ⟨by rfl, ?_⟩) hHeld ?_
  rotate_left 1
  · intro y hSw; (try dsimp only at hSw); go_simp; (with_reducible rfl)
  (try simp only [Act.put, List.getElem_toArray, List.getElem_cons_zero, List.getElem_cons_succ, List.setIfInBounds_toArray, List.set_cons_zero, List.set_cons_succ])
  refine wpAnyH_take1 (i := 80) (oi := _) (v := ?_) (by as_aux_lemma => kernel_rfl) rfl (by as_aux_lemma => kernel_rfl) (fun _ _ _ h => h) (Or.inl ⟨by rfl, ?_⟩) hHeld ?_
  rotate_left 1
  · intro y hSw; (try dsimp only at hSw); go_simp; (with_reducible rfl)
  (try simp only [Act.put, List.getElem_toArray, List.getElem_cons_zero, List.getElem_cons_succ, List.setIfInBounds_toArray, List.set_cons_zero, List.set_cons_succ])
  refine wpAnyH_take1 (i := 81) (oi := _) (v := ?_) (by as_aux_lemma => kernel_rfl) rfl (by as_aux_lemma => kernel_rfl) (fun _ _ _ h => h) (Or.inl ⟨by rfl, ?_⟩) hHeld ?_
  rotate_left 1
  · intro y hSw; (try dsimp only at hSw); go_simp; (with_reducible rfl)
  (try simp only [Act.put, List.getElem_toArray, List.getElem_cons_zero, List.getElem_cons_succ, List.setIfInBounds_toArray, List.set_cons_zero, List.set_cons_succ])
  refine wpAnyH_take1 (i := 82) (oi := _) (v := ?_) (by as_aux_lemma => kernel_rfl) rfl (by as_aux_lemma => kernel_rfl) (fun _ _ _ h => h) (Or.inl ⟨by rfl, ?_⟩) hHeld ?_
  rotate_left 1
  · intro y hSw; (try dsimp only at hSw); go_simp; (with_reducible rfl)
  (try simp only [Act.put, List.getElem_toArray, List.getElem_cons_zero, List.getElem_cons_succ, List.setIfInBounds_toArray, List.set_cons_zero, List.set_cons_succ])
  refine wpAnyH_one (i := 83) (by as_aux_lemma => kernel_rfl) rfl (by rfl) fun K hK => ?_
  go_simp
  refine (SameR12_spec HX.out HLd.out).mono ?_
  rintro e w19 ⟨rfl, hq⟩
  have hb := hq.belowS
  clear hq
  rw [decide_eq_true (show ([g2] : List (List Cell)) = [g2] from rfl)]
  replace hb := below_step hb (Seq.way : Below w18.heap.size w18 _)
  have HC19 := Lib.hid (below_step hb HC18.out)
  (try dsimp only)
  clear hHeld
  refine hK.out _ _ (KF HC19.out).out fun hHeld => ?_
  clear hK K
  (try simp only [Act.put, List.getElem_toArray, List.getElem_cons_zero, List.getElem_cons_succ, List.setIfInBounds_toArray, List.set_cons_zero, List.set_cons_succ])
  replace H0 := Lib.hid (H0.out.at hb)
  replace H1 := Lib.hid (H1.out.at hb)
  replace H2 := Lib.hid (H2.out.at hb)
  replace HL := Lib.hid (HL.out.at hb)
  replace HL1 := Lib.hid (HL1.out.at hb)
  replace HLd := Lib.hid (HLd.out.at hb)
  replace HL2 := Lib.hid (HL2.out.at hb)
  replace HLt := Lib.hid (HLt.out.at hb)
  replace HM := Lib.hid (HM.out.at hb)
  replace HPV := Lib.hid (HPV.out.at hb)
  replace HN := Lib.hid (HN.out.at hb)
  replace HAB := Lib.hid (HAB.out.at hb)
  replace HO := Lib.hid (HO.out.at hb)
  replace HX := Lib.hid (HX.out.at hb)
  replace HZ := Lib.hid (HZ.out.at hb)
  clear hb
  refine wpAnyH_take1 (i := 84) (oi := _) (v := ?_) (by as_aux_lemma => kernel_rfl) rfl (by as_aux_lemma => kernel_rfl) (fun _ _ _ h => h) (Or.inl ⟨by rfl, ?_⟩) hHeld ?_
  rotate_left 1
  · intro y hSw; (try dsimp only at hSw); go_simp; (with_reducible rfl)
  (try simp only [Act.put, List.getElem_toArray, List.getElem_cons_zero, List.getElem_cons_succ, List.setIfInBounds_toArray, List.set_cons_zero, List.set_cons_succ])
  refine wpAnyH_take1 (i := 85) (oi := _) (v := ?_) (by as_aux_lemma => kernel_rfl) rfl (by as_aux_lemma => kernel_rfl) (fun _ _ _ h => h) (Or.inl ⟨by rfl, ?_⟩) hHeld ?_
  rotate_left 1
  · intro y hSw; (try dsimp only at hSw); go_simp; (with_reducible rfl)
  (try simp only [Act.put, List.getElem_toArray, List.getElem_cons_zero, List.getElem_cons_succ, List.setIfInBounds_toArray, List.set_cons_zero, List.set_cons_succ])
  refine wpAnyH_take1 (i := 86) (oi := _) (v := ?_) (by as_aux_lemma => kernel_rfl) rfl (by as_aux_lemma => kernel_rfl) (fun _ _ _ h => h) (Or.inl ⟨by rfl, ?_⟩) hHeld ?_
  rotate_left 1
  · intro y hSw; (try dsimp only at hSw); go_simp; (with_reducible rfl)
  (try simp only [Act.put, List.getElem_toArray, List.getElem_cons_zero, List.getElem_cons_succ, List.setIfInBounds_toArray, List.set_cons_zero, List.set_cons_succ])
  refine wpAnyH_take1 (i := 87) (oi := _) (v := ?_) (by as_aux_lemma => kernel_rfl) rfl (by as_aux_lemma => kernel_rfl) (fun _ _ _ h => h) (Or.inl ⟨by rfl, ?_⟩) hHeld ?_
  rotate_left 1
  · intro y hSw; (try dsimp only at hSw); go_simp; (with_reducible rfl)
  (try simp only [Act.put, List.getElem_toArray, List.getElem_cons_zero, List.getElem_cons_succ, List.setIfInBounds_toArray, List.set_cons_zero, List.set_cons_succ])
  refine wpAnyH_take1 (i := 88) (oi := _) (v := ?_) (by as_aux_lemma => kernel_rfl) rfl (by as_aux_lemma => kernel_rfl) (fun _ _ _ h => h) (Or.inl ⟨by rfl, ?_⟩) hHeld ?_
  rotate_left 1
  · intro y hSw; (try dsimp only at hSw); go_simp; (with_reducible rfl)
  (try simp only [Act.put, List.getElem_toArray, List.getElem_cons_zero, List.getElem_cons_succ, List.setIfInBounds_toArray, List.set_cons_zero, List.set_cons_succ])
  refine wpAnyH_one (i := 89) (by as_aux_lemma => kernel_rfl) rfl (by rfl) fun K hK => ?_
  go_simp
  refine (SameR12_spec HZ.out HLt.out).mono ?_
  rintro e w20 ⟨rfl, hq⟩
  have hb := hq.belowS
  clear hq
  rw [decide_eq_true (show ([g0] : List (List Cell)) = [g0] from rfl)]
  replace hb := below_step hb (Seq.way : Below w19.heap.size w19 _)
  have HC20 := Lib.hid (below_step hb HC19.out)
  (try dsimp only)
  clear hHeld
  refine hK.out _ _ (KF HC20.out).out fun hHeld => ?_
  clear hK K
  (try simp only [Act.put, List.getElem_toArray, List.getElem_cons_zero, List.getElem_cons_succ, List.setIfInBounds_toArray, List.set_cons_zero, List.set_cons_succ])
  replace H0 := Lib.hid (H0.out.at hb)
  replace H1 := Lib.hid (H1.out.at hb)
  replace H2 := Lib.hid (H2.out.at hb)
  replace HL := Lib.hid (HL.out.at hb)
  replace HL1 := Lib.hid (HL1.out.at hb)
  replace HLd := Lib.hid (HLd.out.at hb)
  replace HL2 := Lib.hid (HL2.out.at hb)
  replace HLt := Lib.hid (HLt.out.at hb)
  replace HM := Lib.hid (HM.out.at hb)
  replace HPV := Lib.hid (HPV.out.at hb)
  replace HN := Lib.hid (HN.out.at hb)
  replace HAB := Lib.hid (HAB.out.at hb)
  replace HO := Lib.hid (HO.out.at hb)
  replace HX := Lib.hid (HX.out.at hb)
  replace HZ := Lib.hid (HZ.out.at hb)
  clear hb
  refine wpAnyH_take1 (i := 90) (oi := _) (v := ?_) (by as_aux_lemma => kernel_rfl) rfl (by as_aux_lemma => kernel_rfl) (fun _ _ _ h => h) (Or.inl ⟨by rfl, ?_⟩) hHeld ?_
  rotate_left 1
  · intro y hSw; (try dsimp only at hSw); go_simp; (with_reducible rfl)
  (try simp only [Act.put, List.getElem_toArray, List.getElem_cons_zero, List.getElem_cons_succ, List.setIfInBounds_toArray, List.set_cons_zero, List.set_cons_succ])
  refine wpAnyH_take1 (i := 91) (oi := _) (v := ?_) (by as_aux_lemma => kernel_rfl) rfl (by as_aux_lemma => kernel_rfl) (fun _ _ _ h => h) (Or.inl ⟨by rfl, ?_⟩) hHeld ?_
  rotate_left 1
  · intro y hSw; (try dsimp only at hSw); go_simp; (with_reducible rfl)
  (try simp only [Act.put, List.getElem_toArray, List.getElem_cons_zero, List.getElem_cons_succ, List.setIfInBounds_toArray, List.set_cons_zero, List.set_cons_succ])
  refine wpAnyH_take1 (i := 92) (oi := _) (v := ?_) (by as_aux_lemma => kernel_rfl) rfl (by as_aux_lemma => kernel_rfl) (fun _ _ _ h => h) (Or.inl ⟨by rfl, ?_⟩) hHeld ?_
  rotate_left 1
  · intro y hSw; (try dsimp only at hSw); go_simp; (with_reducible rfl)
  (try simp only [Act.put, List.getElem_toArray, List.getElem_cons_zero, List.getElem_cons_succ, List.setIfInBounds_toArray, List.set_cons_zero, List.set_cons_succ])
  refine wpAnyH_take1 (i := 93) (oi := _) (v := ?_) (by as_aux_lemma => kernel_rfl) rfl (by as_aux_lemma => kernel_rfl) (fun _ _ _ h => h) (Or.inl ⟨by rfl, ?_⟩) hHeld ?_
  rotate_left 1
  · intro y hSw; (try dsimp only at hSw); go_simp; (with_reducible rfl)
  (try simp only [Act.put, List.getElem_toArray, List.getElem_cons_zero, List.getElem_cons_succ, List.setIfInBounds_toArray, List.set_cons_zero, List.set_cons_succ])
  refine wpAnyH_take1 (i := 97) (oi := _) (v := ?_) (by as_aux_lemma => kernel_rfl) rfl (by as_aux_lemma => kernel_rfl) (fun _ _ _ h => h) (Or.inl ⟨by rfl, ?_⟩) hHeld ?_
  rotate_left 1
  · intro y hSw; (try dsimp only at hSw); go_simp; (with_reducible rfl)
  (try simp only [Act.put, List.getElem_toArray, List.getElem_cons_zero, List.getElem_cons_succ, List.setIfInBounds_toArray, List.set_cons_zero, List.set_cons_succ])
  refine wpAnyH_take1 (i := 98) (oi := _) (v := ?_) (by as_aux_lemma => kernel_rfl) rfl (by as_aux_lemma => kernel_rfl) (fun _ _ _ h => h) (Or.inl ⟨by rfl, ?_⟩) hHeld ?_
  rotate_left 1
  · intro y hSw; (try dsimp only at hSw); go_simp; (with_reducible rfl)
  (try simp only [Act.put, List.getElem_toArray, List.getElem_cons_zero, List.getElem_cons_succ, List.setIfInBounds_toArray, List.set_cons_zero, List.set_cons_succ])
  refine wpAnyH_one (i := 94) (by as_aux_lemma => kernel_rfl) rfl (by rfl) fun K hK => ?_
  go_simp
  (try dsimp only)
  clear hHeld
  refine hK.out _ _ (KF (below_step Seq.way HC20.out)).out fun hHeld => ?_
  clear hK K
  (try simp only [Act.put, List.getElem_toArray, List.getElem_cons_zero, List.getElem_cons_succ, List.setIfInBounds_toArray, List.set_cons_zero, List.set_cons_succ])
  refine wpAnyH_one (i := 95) (by as_aux_lemma => kernel_rfl) rfl (by rfl) fun K hK => ?_
  go_simp
  refine (p_spec (nm := ⟨#[112]⟩) (l := [hV]) (seq_cells (cs := [hV]) (Row.new w20 (flatV [hV]) _ rfl) hd_cw4 rfl (by decide)) (by decide) (by decide)).mono ?_
  rintro e w21 ⟨v21, rfl, hb, hs⟩
  replace hs := hs.any
  have hs : Seq cellE (fun _ => True) w21 v21 gpv := hs
  obtain ⟨m21, k21, rfl⟩ := hs.shape
  replace hb := below_step hb (Seq.way : Below w20.heap.size w20 _)
  have HC21 := Lib.hid (below_step hb HC20.out)
  (try dsimp only)
  clear hHeld
  refine hK.out _ _ (KF HC21.out).out fun hHeld => ?_
  clear hK K
  (try simp only [Act.put, List.getElem_toArray, List.getElem_cons_zero, List.getElem_cons_succ, List.setIfInBounds_toArray, List.set_cons_zero, List.set_cons_succ])
  replace H0 := Lib.hid (H0.out.at hb)
  replace H1 := Lib.hid (H1.out.at hb)
  replace H2 := Lib.hid (H2.out.at hb)
  replace HL := Lib.hid (HL.out.at hb)
  replace HL1 := Lib.hid (HL1.out.at hb)
  replace HLd := Lib.hid (HLd.out.at hb)
  replace HL2 := Lib.hid (HL2.out.at hb)
  replace HLt := Lib.hid (HLt.out.at hb)
  replace HM := Lib.hid (HM.out.at hb)
  replace HPV := Lib.hid (HPV.out.at hb)
  replace HN := Lib.hid (HN.out.at hb)
  replace HAB := Lib.hid (HAB.out.at hb)
  replace HO := Lib.hid (HO.out.at hb)
  replace HX := Lib.hid (HX.out.at hb)
  replace HZ := Lib.hid (HZ.out.at hb)
  have HPV2 := Lib.hid hs
  clear hs hb
  refine wpAnyH_one (i := 96) (by as_aux_lemma => kernel_rfl) rfl (by rfl) fun K hK => ?_
  go_simp
  refine (FindP_spec HL.out HPV2.out hd_c1 (fun x hx => hd_r.right x hx) (by decide)).mono ?_
  rintro e w22 ⟨v22, rfl, hb, hs⟩
  replace hs := hs.any
  have hs : Seq (seqE cellE) (fun _ => True) w22 v22 [g0, g1] := hd_m1 ▸ hs
  obtain ⟨m22, k22, rfl⟩ := hs.shape
  replace hb := below_step hb (Seq.way : Below w21.heap.size w21 _)
  have HC22 := Lib.hid (below_step hb HC21.out)
  (try dsimp only)
  clear hHeld
  refine hK.out _ _ (KF HC22.out).out fun hHeld => ?_
  clear hK K
  (try simp only [Act.put, List.getElem_toArray, List.getElem_cons_zero, List.getElem_cons_succ, List.setIfInBounds_toArray, List.set_cons_zero, List.set_cons_succ])
  replace H0 := Lib.hid (H0.out.at hb)
  replace H1 := Lib.hid (H1.out.at hb)
  replace H2 := Lib.hid (H2.out.at hb)
  replace HL := Lib.hid (HL.out.at hb)
  replace HL1 := Lib.hid (HL1.out.at hb)
  replace HLd := Lib.hid (HLd.out.at hb)
  replace HL2 := Lib.hid (HL2.out.at hb)
  replace HLt := Lib.hid (HLt.out.at hb)
  replace HM := Lib.hid (HM.out.at hb)
  replace HPV := Lib.hid (HPV.out.at hb)
  replace HN := Lib.hid (HN.out.at hb)
  replace HAB := Lib.hid (HAB.out.at hb)
  replace HO := Lib.hid (HO.out.at hb)
  replace HX := Lib.hid (HX.out.at hb)
  replace HZ := Lib.hid (HZ.out.at hb)
  replace HPV2 := Lib.hid (HPV2.out.at hb)
  have HG1 := Lib.hid hs
  clear hs hb
  refine wpAnyH_one (i := 99) (by as_aux_lemma => kernel_rfl) rfl (by rfl) fun K hK => ?_
  go_simp
  refine (SameR12_spec HG1.out HL2.out).mono ?_
  rintro e w23 ⟨rfl, hq⟩
  have hb := hq.belowS
  clear hq
  rw [decide_eq_true (show ([g0, g1] : List (List Cell)) = [g0, g1] from rfl)]
  replace hb := below_step hb (Seq.way : Below w22.heap.size w22 _)
  have HC23 := Lib.hid (below_step hb HC22.out)
  (try dsimp only)
  clear hHeld
  refine hK.out _ _ (KF HC23.out).out fun hHeld => ?_
  clear hK K
  (try simp only [Act.put, List.getElem_toArray, List.getElem_cons_zero, List.getElem_cons_succ, List.setIfInBounds_toArray, List.set_cons_zero, List.set_cons_succ])
  replace H0 := Lib.hid (H0.out.at hb)
  replace H1 := Lib.hid (H1.out.at hb)
  replace H2 := Lib.hid (H2.out.at hb)
  replace HL := Lib.hid (HL.out.at hb)
  replace HL1 := Lib.hid (HL1.out.at hb)
  replace HLd := Lib.hid (HLd.out.at hb)
  replace HL2 := Lib.hid (HL2.out.at hb)
  replace HLt := Lib.hid (HLt.out.at hb)
  replace HM := Lib.hid (HM.out.at hb)
  replace HPV := Lib.hid (HPV.out.at hb)
  replace HN := Lib.hid (HN.out.at hb)
  replace HAB := Lib.hid (HAB.out.at hb)
  replace HO := Lib.hid (HO.out.at hb)
  replace HX := Lib.hid (HX.out.at hb)
  replace HZ := Lib.hid (HZ.out.at hb)
  replace HPV2 := Lib.hid (HPV2.out.at hb)
  replace HG1 := Lib.hid (HG1.out.at hb)
  clear hb
  refine wpAnyH_take1 (i := 100) (oi := _) (v := ?_) (by as_aux_lemma => kernel_rfl) rfl (by as_aux_lemma => kernel_rfl) (fun _ _ _ h => h) (Or.inl ⟨by rfl, ?_⟩) hHeld ?_
  rotate_left 1
  · intro y hSw; (try dsimp only at hSw); go_simp; (with_reducible rfl)
  (try simp only [Act.put, List.getElem_toArray, List.getElem_cons_zero, List.getElem_cons_succ, List.setIfInBounds_toArray, List.set_cons_zero, List.set_cons_succ])
  refine wpAnyH_take1 (i := 101) (oi := _) (v := ?_) (by as_aux_lemma => kernel_rfl) rfl (by as_aux_lemma => kernel_rfl) (fun _ _ _ h => h) (Or.inl ⟨by rfl, ?_⟩) hHeld ?_
  rotate_left 1
  · intro y hSw; (try dsimp only at hSw); go_simp; (with_reducible rfl)
  (try simp only [Act.put, List.getElem_toArray, List.getElem_cons_zero, List.getElem_cons_succ, List.setIfInBounds_toArray, List.set_cons_zero, List.set_cons_succ])
  refine wpAnyH_take1 (i := 102) (oi := _) (v := ?_) (by as_aux_lemma => kernel_rfl) rfl (by as_aux_lemma => kernel_rfl) (fun _ _ _ h => h) (Or.inl ⟨by rfl, ?_⟩) hHeld ?_
  rotate_left 1
  · intro y hSw; (try dsimp only at hSw); go_simp; (with_reducible rfl)
  (try simp only [Act.put, List.getElem_toArray, List.getElem_cons_zero, List.getElem_cons_succ, List.setIfInBounds_toArray, List.set_cons_zero, List.set_cons_succ])
  refine wpAnyH_take1 (i := 103) (oi := _) (v := ?_) (by as_aux_lemma => kernel_rfl) rfl (by as_aux_lemma => kernel_rfl) (fun _ _ _ h => h) (Or.inl ⟨by rfl, ?_⟩) hHeld ?_
  rotate_left 1
  · intro y hSw; (try dsimp only at hSw); go_simp; (with_reducible rfl)
  (try simp only [Act.put, List.getElem_toArray, List.getElem_cons_zero, List.getElem_cons_succ, List.setIfInBounds_toArray, List.set_cons_zero, List.set_cons_succ])
  refine wpAnyH_take1 (i := 104) (oi := _) (v := ?_) (by as_aux_lemma => kernel_rfl) rfl (by as_aux_lemma => kernel_rfl) (fun _ _ _ h => h) (Or.inl ⟨by rfl, ?_⟩) hHeld ?_
  rotate_left 1
  · intro y hSw; (try dsimp only at hSw); go_simp; (with_reducible rfl)
  (try simp only [Act.put, List.getElem_toArray, List.getElem_cons_zero, List.getElem_cons_succ, List.setIfInBounds_toArray, List.set_cons_zero, List.set_cons_succ])
  refine wpAnyH_take1 (i := 108) (oi := _) (v := ?_) (by as_aux_lemma => kernel_rfl) rfl (by as_aux_lemma => kernel_rfl) (fun _ _ _ h => h) (Or.inl ⟨by rfl, ?_⟩) hHeld ?_
  rotate_left 1
  · intro y hSw; (try dsimp only at hSw); go_simp; (with_reducible rfl)
  (try simp only [Act.put, List.getElem_toArray, List.getElem_cons_zero, List.getElem_cons_succ, List.setIfInBounds_toArray, List.set_cons_zero, List.set_cons_succ])
  refine wpAnyH_take1 (i := 109) (oi := _) (v := ?_) (by as_aux_lemma => kernel_rfl) rfl (by as_aux_lemma => kernel_rfl) (fun _ _ _ h => h) (Or.inl ⟨by rfl, ?_⟩) hHeld ?_
  rotate_left 1
  · intro y hSw; (try dsimp only at hSw); go_simp; (with_reducible rfl)
  (try simp only [Act.put, List.getElem_toArray, List.getElem_cons_zero, List.getElem_cons_succ, List.setIfInBounds_toArray, List.set_cons_zero, List.set_cons_succ])
  refine wpAnyH_one (i := 105) (by as_aux_lemma => kernel_rfl) rfl (by rfl) fun K hK => ?_
  go_simp
  (try dsimp only)
  clear hHeld
  refine hK.out _ _ (KF (below_step Seq.way HC23.out)).out fun hHeld => ?_
  clear hK K
  (try simp only [Act.put, List.getElem_toArray, List.getElem_cons_zero, List.getElem_cons_succ, List.setIfInBounds_toArray, List.set_cons_zero, List.set_cons_succ])
  refine wpAnyH_one (i := 106) (by as_aux_lemma => kernel_rfl) rfl (by rfl) fun K hK => ?_
  go_simp
  refine (p_spec (nm := ⟨#[113]⟩) (l := [hV, hV]) (seq_cells (cs := [hV, hV]) (Row.new w23 (flatV [hV, hV]) _ rfl) hd_cw7 rfl (by decide)) (by decide) (by decide)).mono ?_
  rintro e w24 ⟨v24, rfl, hb, hs⟩
  replace hs := hs.any
  have hs : Seq cellE (fun _ => True) w24 v24 gqv := hs
  obtain ⟨m24, k24, rfl⟩ := hs.shape
  replace hb := below_step hb (Seq.way : Below w23.heap.size w23 _)
  have HC24 := Lib.hid (below_step hb HC23.out)
  (try dsimp only)
  clear hHeld
  refine hK.out _ _ (KF HC24.out).out fun hHeld => ?_
  clear hK K
  (try simp only [Act.put, List.getElem_toArray, List.getElem_cons_zero, List.getElem_cons_succ, List.setIfInBounds_toArray, List.set_cons_zero, List.set_cons_succ])
  replace H0 := Lib.hid (H0.out.at hb)
  replace H1 := Lib.hid (H1.out.at hb)
  replace H2 := Lib.hid (H2.out.at hb)
  replace HL := Lib.hid (HL.out.at hb)
  replace HL1 := Lib.hid (HL1.out.at hb)
  replace HLd := Lib.hid (HLd.out.at hb)
  replace HL2 := Lib.hid (HL2.out.at hb)
  replace HLt := Lib.hid (HLt.out.at hb)
  replace HM := Lib.hid (HM.out.at hb)
  replace HPV := Lib.hid (HPV.out.at hb)
  replace HN := Lib.hid (HN.out.at hb)
  replace HAB := Lib.hid (HAB.out.at hb)
  replace HO := Lib.hid (HO.out.at hb)
  replace HX := Lib.hid (HX.out.at hb)
  replace HZ := Lib.hid (HZ.out.at hb)
  replace HPV2 := Lib.hid (HPV2.out.at hb)
  replace HG1 := Lib.hid (HG1.out.at hb)
  have HQV := Lib.hid hs
  clear hs hb
  refine wpAnyH_one (i := 107) (by as_aux_lemma => kernel_rfl) rfl (by rfl) fun K hK => ?_
  go_simp
  refine (FindP_spec HL.out HQV.out hd_c2 (fun x hx => hd_r.right x hx) (by decide)).mono ?_
  rintro e w25 ⟨v25, rfl, hb, hs⟩
  replace hs := hs.any
  have hs : Seq (seqE cellE) (fun _ => True) w25 v25 [g2] := hd_m2 ▸ hs
  obtain ⟨m25, k25, rfl⟩ := hs.shape
  replace hb := below_step hb (Seq.way : Below w24.heap.size w24 _)
  have HC25 := Lib.hid (below_step hb HC24.out)
  (try dsimp only)
  clear hHeld
  refine hK.out _ _ (KF HC25.out).out fun hHeld => ?_
  clear hK K
  (try simp only [Act.put, List.getElem_toArray, List.getElem_cons_zero, List.getElem_cons_succ, List.setIfInBounds_toArray, List.set_cons_zero, List.set_cons_succ])
  replace H0 := Lib.hid (H0.out.at hb)
  replace H1 := Lib.hid (H1.out.at hb)
  replace H2 := Lib.hid (H2.out.at hb)
  replace HL := Lib.hid (HL.out.at hb)
  replace HL1 := Lib.hid (HL1.out.at hb)
  replace HLd := Lib.hid (HLd.out.at hb)
  replace HL2 := Lib.hid (HL2.out.at hb)
  replace HLt := Lib.hid (HLt.out.at hb)
  replace HM := Lib.hid (HM.out.at hb)
  replace HPV := Lib.hid (HPV.out.at hb)
  replace HN := Lib.hid (HN.out.at hb)
  replace HAB := Lib.hid (HAB.out.at hb)
  replace HO := Lib.hid (HO.out.at hb)
  replace HX := Lib.hid (HX.out.at hb)
  replace HZ := Lib.hid (HZ.out.at hb)
  replace HPV2 := Lib.hid (HPV2.out.at hb)
  replace HG1 := Lib.hid (HG1.out.at hb)
  replace HQV := Lib.hid (HQV.out.at hb)
  have HG2 := Lib.hid hs
  clear hs hb
  refine wpAnyH_one (i := 110) (by as_aux_lemma => kernel_rfl) rfl (by rfl) fun K hK => ?_
  go_simp
  refine (SameR12_spec HG2.out HLd.out).mono ?_
  rintro e w26 ⟨rfl, hq⟩
  have hb := hq.belowS
  clear hq
  rw [decide_eq_true (show ([g2] : List (List Cell)) = [g2] from rfl)]
  replace hb := below_step hb (Seq.way : Below w25.heap.size w25 _)
  have HC26 := Lib.hid (below_step hb HC25.out)
  (try dsimp only)
  clear hHeld
  refine hK.out _ _ (KF HC26.out).out fun hHeld => ?_
  clear hK K
  (try simp only [Act.put, List.getElem_toArray, List.getElem_cons_zero, List.getElem_cons_succ, List.setIfInBounds_toArray, List.set_cons_zero, List.set_cons_succ])
  replace H0 := Lib.hid (H0.out.at hb)
  replace H1 := Lib.hid (H1.out.at hb)
  replace H2 := Lib.hid (H2.out.at hb)
  replace HL := Lib.hid (HL.out.at hb)
  replace HL1 := Lib.hid (HL1.out.at hb)
  replace HLd := Lib.hid (HLd.out.at hb)
  replace HL2 := Lib.hid (HL2.out.at hb)
  replace HLt := Lib.hid (HLt.out.at hb)
  replace HM := Lib.hid (HM.out.at hb)
  replace HPV := Lib.hid (HPV.out.at hb)
  replace HN := Lib.hid (HN.out.at hb)
  replace HAB := Lib.hid (HAB.out.at hb)
  replace HO := Lib.hid (HO.out.at hb)
  replace HX := Lib.hid (HX.out.at hb)
  replace HZ := Lib.hid (HZ.out.at hb)
  replace HPV2 := Lib.hid (HPV2.out.at hb)
  replace HG1 := Lib.hid (HG1.out.at hb)
  replace HQV := Lib.hid (HQV.out.at hb)
  replace HG2 := Lib.hid (HG2.out.at hb)
  clear hb
  refine wpAnyH_take1 (i := 111) (oi := _) (v := ?_) (by as_aux_lemma => kernel_rfl) rfl (by as_aux_lemma => kernel_rfl) (fun _ _ _ h => h) (Or.inl ⟨by rfl, ?_⟩) hHeld ?_
  rotate_left 1
  · intro y hSw; (try dsimp only at hSw); go_simp; (with_reducible rfl)
  (try simp only [Act.put, List.getElem_toArray, List.getElem_cons_zero, List.getElem_cons_succ, List.setIfInBounds_toArray, List.set_cons_zero, List.set_cons_succ])
  refine wpAnyH_take1 (i := 112) (oi := _) (v := ?_) (by as_aux_lemma => kernel_rfl) rfl (by as_aux_lemma => kernel_rfl) (fun _ _ _ h => h) (Or.inl ⟨by rfl, ?_⟩) hHeld ?_
  rotate_left 1
  · intro y hSw; (try dsimp only at hSw); go_simp; (with_reducible rfl)
  (try simp only [Act.put, List.getElem_toArray, List.getElem_cons_zero, List.getElem_cons_succ, List.setIfInBounds_toArray, List.set_cons_zero, List.set_cons_succ])
  refine wpAnyH_take1 (i := 113) (oi := _) (v := ?_) (by as_aux_lemma => kernel_rfl) rfl (by as_aux_lemma => kernel_rfl) (fun _ _ _ h => h) (Or.inl ⟨by rfl, ?_⟩) hHeld ?_
  rotate_left 1
  · intro y hSw; (try dsimp only at hSw); go_simp; (with_reducible rfl)
  (try simp only [Act.put, List.getElem_toArray, List.getElem_cons_zero, List.getElem_cons_succ, List.setIfInBounds_toArray, List.set_cons_zero, List.set_cons_succ])
  refine wpAnyH_take1 (i := 114) (oi := _) (v := ?_) (by as_aux_lemma => kernel_rfl) rfl (by as_aux_lemma => kernel_rfl) (fun _ _ _ h => h) (Or.inl ⟨by rfl, ?_⟩) hHeld ?_
  rotate_left 1
  · intro y hSw; (try dsimp only at hSw); go_simp; (with_reducible rfl)
  (try simp only [Act.put, List.getElem_toArray, List.getElem_cons_zero, List.getElem_cons_succ, List.setIfInBounds_toArray, List.set_cons_zero, List.set_cons_succ])
  refine wpAnyH_take1 (i := 115) (oi := _) (v := ?_) (by as_aux_lemma => kernel_rfl) rfl (by as_aux_lemma => kernel_rfl) (fun _ _ _ h => h) (Or.inl ⟨by rfl, ?_⟩) hHeld ?_
  rotate_left 1
  · intro y hSw; (try dsimp only at hSw); go_simp; (with_reducible rfl)
  (try simp only [Act.put, List.getElem_toArray, List.getElem_cons_zero, List.getElem_cons_succ, List.setIfInBounds_toArray, List.set_cons_zero, List.set_cons_succ])
  refine wpAnyH_take1 (i := 116) (oi := _) (v := ?_) (by as_aux_lemma => kernel_rfl) rfl (by as_aux_lemma => kernel_rfl) (fun _ _ _ h => h) (Or.inl ⟨by rfl, ?_⟩) hHeld ?_
  rotate_left 1
  · intro y hSw; (try dsimp only at hSw); go_simp; (with_reducible rfl)
  (try simp only [Act.put, List.getElem_toArray, List.getElem_cons_zero, List.getElem_cons_succ, List.setIfInBounds_toArray, List.set_cons_zero, List.set_cons_succ])
  refine wpAnyH_one (i := 117) (by as_aux_lemma => kernel_rfl) rfl (by rfl) fun K hK => ?_
  go_simp
  refine (HasP_spec HL.out H1.out hd_r.sort hd_r.len).mono ?_
  rintro e w27 ⟨rfl, hb⟩
  rw [hd_h1]
  replace hb := below_step hb (Seq.way : Below w26.heap.size w26 _)
  have HC27 := Lib.hid (below_step hb HC26.out)
  (try dsimp only)
  clear hHeld
  refine hK.out _ _ (KF HC27.out).out fun hHeld => ?_
  clear hK K
  (try simp only [Act.put, List.getElem_toArray, List.getElem_cons_zero, List.getElem_cons_succ, List.setIfInBounds_toArray, List.set_cons_zero, List.set_cons_succ])
  replace H0 := Lib.hid (H0.out.at hb)
  replace H1 := Lib.hid (H1.out.at hb)
  replace H2 := Lib.hid (H2.out.at hb)
  replace HL := Lib.hid (HL.out.at hb)
  replace HL1 := Lib.hid (HL1.out.at hb)
  replace HLd := Lib.hid (HLd.out.at hb)
  replace HL2 := Lib.hid (HL2.out.at hb)
  replace HLt := Lib.hid (HLt.out.at hb)
  replace HM := Lib.hid (HM.out.at hb)
  replace HPV := Lib.hid (HPV.out.at hb)
  replace HN := Lib.hid (HN.out.at hb)
  replace HAB := Lib.hid (HAB.out.at hb)
  replace HO := Lib.hid (HO.out.at hb)
  replace HX := Lib.hid (HX.out.at hb)
  replace HZ := Lib.hid (HZ.out.at hb)
  replace HPV2 := Lib.hid (HPV2.out.at hb)
  replace HG1 := Lib.hid (HG1.out.at hb)
  replace HQV := Lib.hid (HQV.out.at hb)
  replace HG2 := Lib.hid (HG2.out.at hb)
  clear hb
  refine wpAnyH_take1 (i := 118) (oi := _) (v := ?_) (by as_aux_lemma => kernel_rfl) rfl (by as_aux_lemma => kernel_rfl) (fun _ _ _ h => h) (Or.inl ⟨by rfl, ?_⟩) hHeld ?_
  rotate_left 1
  · intro y hSw; (try dsimp only at hSw); go_simp; (with_reducible rfl)
  (try simp only [Act.put, List.getElem_toArray, List.getElem_cons_zero, List.getElem_cons_succ, List.setIfInBounds_toArray, List.set_cons_zero, List.set_cons_succ])
  refine wpAnyH_take1 (i := 119) (oi := _) (v := ?_) (by as_aux_lemma => kernel_rfl) rfl (by as_aux_lemma => kernel_rfl) (fun _ _ _ h => h) (Or.inl ⟨by rfl, ?_⟩) hHeld ?_
  rotate_left 1
  · intro y hSw; (try dsimp only at hSw); go_simp; (with_reducible rfl)
  (try simp only [Act.put, List.getElem_toArray, List.getElem_cons_zero, List.getElem_cons_succ, List.setIfInBounds_toArray, List.set_cons_zero, List.set_cons_succ])
  refine wpAnyH_take1 (i := 120) (oi := _) (v := ?_) (by as_aux_lemma => kernel_rfl) rfl (by as_aux_lemma => kernel_rfl) (fun _ _ _ h => h) (Or.inl ⟨by rfl, ?_⟩) hHeld ?_
  rotate_left 1
  · intro y hSw; (try dsimp only at hSw); go_simp; (with_reducible rfl)
  (try simp only [Act.put, List.getElem_toArray, List.getElem_cons_zero, List.getElem_cons_succ, List.setIfInBounds_toArray, List.set_cons_zero, List.set_cons_succ])
  refine wpAnyH_take1 (i := 121) (oi := _) (v := ?_) (by as_aux_lemma => kernel_rfl) rfl (by as_aux_lemma => kernel_rfl) (fun _ _ _ h => h) (Or.inl ⟨by rfl, ?_⟩) hHeld ?_
  rotate_left 1
  · intro y hSw; (try dsimp only at hSw); go_simp; (with_reducible rfl)
  (try simp only [Act.put, List.getElem_toArray, List.getElem_cons_zero, List.getElem_cons_succ, List.setIfInBounds_toArray, List.set_cons_zero, List.set_cons_succ])
  refine wpAnyH_one (i := 122) (by as_aux_lemma => kernel_rfl) rfl (by rfl) fun K hK => ?_
  go_simp
  (try dsimp only)
  clear hHeld
  refine hK.out _ _ (KF (below_step Seq.way HC27.out)).out fun hHeld => ?_
  clear hK K
  (try simp only [Act.put, List.getElem_toArray, List.getElem_cons_zero, List.getElem_cons_succ, List.setIfInBounds_toArray, List.set_cons_zero, List.set_cons_succ])
  refine wpAnyH_one (i := 123) (by as_aux_lemma => kernel_rfl) rfl (by rfl) fun K hK => ?_
  go_simp
  refine (p_spec (nm := ⟨#[112]⟩) (l := [hV]) (seq_cells (cs := [hV]) (Row.new w27 (flatV [hV]) _ rfl) hd_cw4 rfl (by decide)) (by decide) (by decide)).mono ?_
  rintro e w28 ⟨v28, rfl, hb, hs⟩
  replace hs := hs.any
  have hs : Seq cellE (fun _ => True) w28 v28 gpv := hs
  obtain ⟨m28, k28, rfl⟩ := hs.shape
  replace hb := below_step hb (Seq.way : Below w27.heap.size w27 _)
  have HC28 := Lib.hid (below_step hb HC27.out)
  (try dsimp only)
  clear hHeld
  refine hK.out _ _ (KF HC28.out).out fun hHeld => ?_
  clear hK K
  (try simp only [Act.put, List.getElem_toArray, List.getElem_cons_zero, List.getElem_cons_succ, List.setIfInBounds_toArray, List.set_cons_zero, List.set_cons_succ])
  replace H0 := Lib.hid (H0.out.at hb)
  replace H1 := Lib.hid (H1.out.at hb)
  replace H2 := Lib.hid (H2.out.at hb)
  replace HL := Lib.hid (HL.out.at hb)
  replace HL1 := Lib.hid (HL1.out.at hb)
  replace HLd := Lib.hid (HLd.out.at hb)
  replace HL2 := Lib.hid (HL2.out.at hb)
  replace HLt := Lib.hid (HLt.out.at hb)
  replace HM := Lib.hid (HM.out.at hb)
  replace HPV := Lib.hid (HPV.out.at hb)
  replace HN := Lib.hid (HN.out.at hb)
  replace HAB := Lib.hid (HAB.out.at hb)
  replace HO := Lib.hid (HO.out.at hb)
  replace HX := Lib.hid (HX.out.at hb)
  replace HZ := Lib.hid (HZ.out.at hb)
  replace HPV2 := Lib.hid (HPV2.out.at hb)
  replace HG1 := Lib.hid (HG1.out.at hb)
  replace HQV := Lib.hid (HQV.out.at hb)
  replace HG2 := Lib.hid (HG2.out.at hb)
  have HPV3 := Lib.hid hs
  clear hs hb
  refine wpAnyH_one (i := 124) (by as_aux_lemma => kernel_rfl) rfl (by rfl) fun K hK => ?_
  go_simp
  refine (HasP_spec HL.out HPV3.out hd_r.sort hd_r.len).mono ?_
  rintro e w29 ⟨rfl, hb⟩
  rw [hd_h2]
  replace hb := below_step hb (Seq.way : Below w28.heap.size w28 _)
  have HC29 := Lib.hid (below_step hb HC28.out)
  (try dsimp only)
  clear hHeld
  refine hK.out _ _ (KF HC29.out).out fun hHeld => ?_
  clear hK K
  (try simp only [Act.put, List.getElem_toArray, List.getElem_cons_zero, List.getElem_cons_succ, List.setIfInBounds_toArray, List.set_cons_zero, List.set_cons_succ])
  replace H0 := Lib.hid (H0.out.at hb)
  replace H1 := Lib.hid (H1.out.at hb)
  replace H2 := Lib.hid (H2.out.at hb)
  replace HL := Lib.hid (HL.out.at hb)
  replace HL1 := Lib.hid (HL1.out.at hb)
  replace HLd := Lib.hid (HLd.out.at hb)
  replace HL2 := Lib.hid (HL2.out.at hb)
  replace HLt := Lib.hid (HLt.out.at hb)
  replace HM := Lib.hid (HM.out.at hb)
  replace HPV := Lib.hid (HPV.out.at hb)
  replace HN := Lib.hid (HN.out.at hb)
  replace HAB := Lib.hid (HAB.out.at hb)
  replace HO := Lib.hid (HO.out.at hb)
  replace HX := Lib.hid (HX.out.at hb)
  replace HZ := Lib.hid (HZ.out.at hb)
  replace HPV2 := Lib.hid (HPV2.out.at hb)
  replace HG1 := Lib.hid (HG1.out.at hb)
  replace HQV := Lib.hid (HQV.out.at hb)
  replace HG2 := Lib.hid (HG2.out.at hb)
  replace HPV3 := Lib.hid (HPV3.out.at hb)
  clear hb
  refine wpAnyH_take1 (i := 125) (oi := _) (v := ?_) (by as_aux_lemma => kernel_rfl) rfl (by as_aux_lemma => kernel_rfl) (fun _ _ _ h => h) (Or.inl ⟨by rfl, ?_⟩) hHeld ?_
  rotate_left 1
  · intro y hSw; (try dsimp only at hSw); go_simp; (with_reducible rfl)
  (try simp only [Act.put, List.getElem_toArray, List.getElem_cons_zero, List.getElem_cons_succ, List.setIfInBounds_toArray, List.set_cons_zero, List.set_cons_succ])
  refine wpAnyH_take1 (i := 126) (oi := _) (v := ?_) (by as_aux_lemma => kernel_rfl) rfl (by as_aux_lemma => kernel_rfl) (fun _ _ _ h => h) (Or.inl ⟨by rfl, ?_⟩) hHeld ?_
  rotate_left 1
  · intro y hSw; (try dsimp only at hSw); go_simp; (with_reducible rfl)
  (try simp only [Act.put, List.getElem_toArray, List.getElem_cons_zero, List.getElem_cons_succ, List.setIfInBounds_toArray, List.set_cons_zero, List.set_cons_succ])
  refine wpAnyH_one (i := 127) (by as_aux_lemma => kernel_rfl) rfl (by rfl) fun K hK => ?_
  go_simp
  (try dsimp only)
  clear hHeld
  refine hK.out _ _ (KF HC29.out).out fun hHeld => ?_
  clear hK K
  (try simp only [Act.put, List.getElem_toArray, List.getElem_cons_zero, List.getElem_cons_succ, List.setIfInBounds_toArray, List.set_cons_zero, List.set_cons_succ])
  refine wpAnyH_done (by as_aux_lemma => kernel_rfl) ?_ _
  refine NoPanic.normal ?_
  go_wp2_with fail
  go_ret
  exact ⟨rfl, below_step HC29.out HB.out⟩
end Go.Proofs.Ytceipnlpofebmaa
