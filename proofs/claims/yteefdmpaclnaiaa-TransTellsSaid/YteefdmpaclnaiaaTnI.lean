/-
  Layer 13: Right of the program.
-/
import Derived.Test.YteefdmpaclnaiaaTnH
namespace Go.Proofs.Yteefdmpaclnaiaa
open Go Go.RowKit
theorem any_oddC (l : List Chg) : l.any oddC = !(l.all fun c => factT c.t) := by
  unfold oddC
  rw [List.not_all_eq_any_not]
set_option maxHeartbeats 1600000 in
set_option maxRecDepth 100000 in
theorem RightP13_spec {S : Nat → Prop} {w : World} {v : Value} {b : Bas} (hb : BasV S w v b) :
    Calls Try.prog 12 #[v] w (RetV (.bool (rightB b)) w) := by
  obtain ⟨fa, fc, ta, tc, rfl, h1, h2, h3⟩ := hb.bnd
  have hrb := Lib.hid (show rightB b = (rowR b.facts && decide (0 ≤ b.ver) && decide (b.ver ≤ 1099511627776) && (b.on || decide (b.todo.length = 0)) && b.todo.all fun c => factT c.t) from rfl)
  have H2 := Lib.hid h2
  have H3 := Lib.hid h3
  obtain ⟨W, hW⟩ : ∃ W, W = w.alloc (.cells #[.slice fa b.facts.length fc, .int .i64 b.ver, .bool b.on, .slice ta b.todo.length tc] 25) := ⟨_, rfl⟩
  have hbW := Lib.hid (show Below w.heap.size w W by rw [hW]; exact Seq.way)
  have R0 := Lib.hid (show Row 25 W w.heap.size [.slice fa b.facts.length fc, .int .i64 b.ver, .bool b.on, .slice ta b.todo.length tc] by rw [hW]; exact Row.new _ [_, _, _, _] _ rfl)
  have hzW : w.heap.size + 1 ≤ W.heap.size := by rw [hW]; simp
  have HW := Lib.hid hW
  clear hW h2 h3 hb
  go_enter Try.func12, Try.ntmps12
  go_wp2_with fail
  rw [← HW.out]
  refine (RightP12_spec (H2.out.at hbW.out)).mono ?_
  rintro e w1 ⟨rfl, hb1⟩
  have hbw1 := below_step hb1 hbW.out
  have hz1 := hb1.size
  obtain ⟨c0, c1, c2, c3, -, -, -, -⟩ := (R0.out.below hb1 (by omega)).four
  have H31 := Lib.hid (H3.out.at hbw1)
  obtain ⟨q, hq⟩ : ∃ q, q = rowR b.facts := ⟨_, rfl⟩
  obtain ⟨on, hon⟩ : ∃ on, on = b.on := ⟨_, rfl⟩
  rw [← hq, ← hon] at hrb
  rw [← hq]
  rw [← hon] at c2
  clear hq hon
  have hyes : (0 : Int) ≤ b.ver → b.ver ≤ 1099511627776 → (on = true ∨ b.todo.length = 0) → q = true → rightB b = !(b.todo.any oddC) := fun a1 a2 a3 a4 => by
    rw [hrb.out, any_oddC, Bool.not_not, a4, decide_eq_true a1, decide_eq_true a2]
    rcases a3 with rfl | a3
    · simp
    · rw [decide_eq_true a3]; simp
  have Hyes := fun a1 a2 a3 a4 => Lib.hid (hyes a1 a2 a3 a4)
  clear hyes
  cases q
  · go_wp2_with fail
    go_ret
    exact ⟨ret_bool (by rw [hrb.out]; rfl), hbw1⟩
  · by_cases hv0 : 0 ≤ b.ver
    · by_cases hv1 : b.ver ≤ 1099511627776
      · cases on
        · by_cases hl : b.todo.length = 0
          · have hx := Hyes hv0 hv1 (.inr hl) rfl
            have hl' : ((b.todo.length : Int) == 0) = true := by simp [hl]
            clear hl
            go_wp2_with fail
            refine (chgOdd_has H31.out).mono ?_
            rintro e w2 ⟨rfl, hb2⟩
            have hbw2 := below_step hb2 hbw1
            go_wp2_with fail
            go_ret
            exact ⟨ret_bool hx.out.symm, hbw2⟩
          · have hx := Lib.hid (show rightB b = false by rw [hrb.out, decide_eq_false hl]; simp)
            have hl' : ((b.todo.length : Int) == 0) = false := by rw [beq_eq_false_iff_ne]; omega
            clear hl
            go_wp2_with fail
            go_ret
            exact ⟨ret_bool (by rw [hx.out]), hbw1⟩
        · have hx := Hyes hv0 hv1 (.inl rfl) rfl
          go_wp2_with fail
          refine (chgOdd_has H31.out).mono ?_
          rintro e w2 ⟨rfl, hb2⟩
          have hbw2 := below_step hb2 hbw1
          go_wp2_with fail
          go_ret
          exact ⟨ret_bool hx.out.symm, hbw2⟩
      · go_wp2_with fail
        go_ret
        exact ⟨ret_bool (by rw [hrb.out, decide_eq_false (show ¬ b.ver ≤ 1099511627776 by omega)]; simp), hbw1⟩
    · go_wp2_with fail
      go_ret
      exact ⟨ret_bool (by rw [hrb.out, decide_eq_false (show ¬ 0 ≤ b.ver by omega)]; simp), hbw1⟩
end Go.Proofs.Yteefdmpaclnaiaa
