/-
  Layer 18, the program: Do, where the numbers are none of a simplification.
-/
import Derived.Test.YtdbennmbbmoflaaPrK
import Derived.Deep.Cut
import Derived.Deep.CutRange
import Derived.Deep.DeepCutAuto
namespace Go.Proofs.Ytdbennmbbmoflaa
open Go Go.RowKit

theorem below_step' {w W w' : World} (hb : Below W.heap.size W w') (h : Below w.heap.size w W) : Below w.heap.size w w' := h.trans (hb.mono h.size)

set_option maxHeartbeats 20000000 in
set_option maxRecDepth 100000 in
theorem DoP_no {S : Nat → Prop} {w : World} {v : Value} {g : Prog} {s1 s2 : Int} (hg : ProgV S w v g) (h : s1 < 1 ∨ 5 < s1 ∨ s2 < 0 ∨ (g.rules.length : Int) ≤ s2) :
    Calls Try.prog 14 #[v, .agg #[.int .i64 s1, .int .i64 s2]] w (RetV (.tuple #[v, .bool false]) w) := by
  obtain ⟨va, vb, rfl, ⟨aa, ac, rfl, -⟩, ⟨ra, rc, rfl, -⟩⟩ := hg
  obtain ⟨n, hn⟩ : ∃ n, n = g.rules.length := ⟨_, rfl⟩
  obtain ⟨m, hm⟩ : ∃ m, m = g.atoms.length := ⟨_, rfl⟩
  rw [← hn] at h ⊢
  rw [← hm]
  clear hn hm
  obtain ⟨W3, hW3⟩ : ∃ W3, W3 = ((w.alloc (.cells #[.slice aa m ac, .slice ra n rc] 30)).alloc (.cells #[.int .i64 s1, .int .i64 s2] 23)).alloc (.cells #[.slice none 0 0, .slice none 0 0] 30) := ⟨_, rfl⟩
  have HW := Lib.hid hW3
  have hB3 : Below w.heap.size w W3 := by rw [hW3]; exact Seq.way
  have hs3 : w.heap.size + 3 ≤ W3.heap.size := by rw [hW3]; simp
  have q0 : W3.cell? ⟨w.heap.size, 0, none⟩ = some (.slice aa m ac) := by rw [hW3]; go_simp
  have q1 : W3.cell? ⟨w.heap.size, 1, none⟩ = some (.slice ra n rc) := by rw [hW3]; go_simp
  have q2 : W3.cell? ⟨w.heap.size + 1, 0, none⟩ = some (.int .i64 s1) := by rw [hW3]; go_simp
  have q3 : W3.cell? ⟨w.heap.size + 1, 1, none⟩ = some (.int .i64 s2) := by rw [hW3]; go_simp
  have q7 : W3.cell? ⟨w.heap.size + 1 + 1, 0, none⟩ = some (.slice none 0 0) := by rw [hW3]; go_simp
  have q8 : W3.cell? ⟨w.heap.size + 1 + 1, 1, none⟩ = some (.slice none 0 0) := by rw [hW3]; go_simp
  have q9 : W3.frozen? ⟨w.heap.size + 1 + 1, 0, none⟩ = false := by rw [hW3]; go_simp
  have q10 : W3.frozen? ⟨w.heap.size + 1 + 1, 1, none⟩ = false := by rw [hW3]; go_simp
  have hz0 : w.heap.size < W3.heap.size := by omega
  have hz1 : w.heap.size + 1 < W3.heap.size := by omega
  have hz2 : w.heap.size + 1 + 1 < W3.heap.size := by omega
  clear hW3
  go_enter Try.func14, Try.ntmps14
  go_upto_region 1 with fail
  rw [← HW.out]
  clear HW
  go_cut [35] (fun s35 wx => s35 = .bool true ∧ Below W3.heap.size W3 wx)
  case first =>
    by_cases h1 : s1 < 1
    · have g1 : decide (s1 < 1) = true := by simpa using h1
      go_quiet (fail)
      go_wp2_with fail
      go_meet
      exact ⟨rfl, Seq.way⟩
    · have g1 : decide (s1 < 1) = false := by simpa using h1
      have hk : ∀ {W : World}, Below W3.heap.size W3 W → W.cell? ⟨w.heap.size, 1, none⟩ = some (.slice ra n rc) ∧ W.cell? ⟨w.heap.size + 1, 0, none⟩ = some (.int .i64 s1) ∧ W.cell? ⟨w.heap.size + 1, 1, none⟩ = some (.int .i64 s2) := fun hW =>
        ⟨(hW.cell (p := ⟨w.heap.size, 1, none⟩) hz0).trans q1, (hW.cell (p := ⟨w.heap.size + 1, 0, none⟩) hz1).trans q2, (hW.cell (p := ⟨w.heap.size + 1, 1, none⟩) hz1).trans q3⟩
      have Hk := fun {W : World} (hW : Below W3.heap.size W3 W) => Lib.hid (hk hW)
      clear hk
      by_cases h2 : 5 < s1
      · have g2 : decide (5 < s1) = true := by simpa using h2
        first
        | (go_region_with ((go_at_call 31; refine kinds_spec.mono ?_; rintro e w4 ⟨kv, rfl, hbk, hkv, -, -⟩; subst hkv; have HBk := below_step' hbk (Seq.way : Below W3.heap.size W3 _); obtain ⟨u1, u2, u3⟩ := (Hk HBk).out)))
        | fail
        all_goals go_wp2_with fail
        all_goals go_meet
        all_goals exact ⟨rfl, Seq.way⟩
      · have g2 : decide (5 < s1) = false := by simpa using h2
        by_cases h3 : s2 < 0
        · have g3 : decide (s2 < 0) = true := by simpa using h3
          first
          | (go_region_with ((go_at_call 31; refine kinds_spec.mono ?_; rintro e w4 ⟨kv, rfl, hbk, hkv, -, -⟩; subst hkv; have HBk := below_step' hbk (Seq.way : Below W3.heap.size W3 _); obtain ⟨u1, u2, u3⟩ := (Hk HBk).out)))
          | fail
          all_goals go_wp2_with fail
          all_goals go_meet
          all_goals exact ⟨rfl, Seq.way⟩
        · have g3 : decide (s2 < 0) = false := by simpa using h3
          have h4 : (n : Int) ≤ s2 := by omega
          have g4 : decide ((n : Int) ≤ s2) = true := by simpa using h4
          first
          | (go_region_with ((go_at_call 31; refine kinds_spec.mono ?_; rintro e w4 ⟨kv, rfl, hbk, hkv, -, -⟩; subst hkv; have HBk := below_step' hbk (Seq.way : Below W3.heap.size W3 _); obtain ⟨u1, u2, u3⟩ := (Hk HBk).out)))
          | fail
          all_goals go_wp2_with fail
          all_goals go_meet
          all_goals exact ⟨rfl, Seq.way⟩
  case rest =>
    obtain ⟨rfl, hbx⟩ := hcut
    have r0 := (hbx.cell (p := ⟨w.heap.size, 0, none⟩) hz0).trans q0
    have r1 := (hbx.cell (p := ⟨w.heap.size, 1, none⟩) hz0).trans q1
    have r7 := (hbx.cell (p := ⟨w.heap.size + 1 + 1, 0, none⟩) hz2).trans q7
    have r8 := (hbx.cell (p := ⟨w.heap.size + 1 + 1, 1, none⟩) hz2).trans q8
    have r9 := (hbx.frozen (p := ⟨w.heap.size + 1 + 1, 0, none⟩) hz2).trans q9
    have r10 := (hbx.frozen (p := ⟨w.heap.size + 1 + 1, 1, none⟩) hz2).trans q10
    have hw := hB3.trans (hbx.mono (by omega))
    go_wp2_with fail
    refine bodyPost_ret (v := .tuple #[.agg #[.slice aa m ac, .slice ra n rc], .bool false]) (by simp [results, Try.results14, go_sem, r7, r8]) rfl ⟨rfl, ?_⟩
    exact (hw.setCell (by show w.heap.size ≤ w.heap.size + 1 + 1; omega) _).setCell (by show w.heap.size ≤ w.heap.size + 1 + 1; omega) _
end Go.Proofs.Ytdbennmbbmoflaa
