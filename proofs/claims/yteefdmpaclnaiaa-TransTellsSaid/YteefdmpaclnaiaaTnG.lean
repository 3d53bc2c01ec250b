/-
  Layer 13: Right of the document.
-/
import Derived.Test.YteefdmpaclnaiaaTnF
namespace Go.Proofs.Yteefdmpaclnaiaa
open Go Go.RowKit

def rightB (b : Bas) : Bool := rowR b.facts && decide (0 ≤ b.ver) && decide (b.ver ≤ 1099511627776) && (b.on || decide (b.todo.length = 0)) && b.todo.all fun c => factT c.t

set_option maxHeartbeats 1600000 in
set_option maxRecDepth 100000 in
theorem RightR13_spec {S : Nat → Prop} {w : World} {v : Value} {b : Bas} (hb : BasV S w v b) :
    Calls Try.prog 13 #[v] w (RetV (.bool (rightB b)) w) := by
  obtain ⟨fa, fc, ta, tc, rfl, h1, h2, h3⟩ := hb.bnd
  have H2 := Lib.hid h2
  obtain ⟨_, _, ee, -, -, hal, -, h5⟩ := h3
  simp only [Value.slice.injEq, true_and] at ee
  obtain ⟨rfl, rfl⟩ := ee
  obtain ⟨W, hW⟩ : ∃ W, W = w.alloc (.cells #[.slice fa b.facts.length fc, .int .i64 b.ver, .bool b.on, .slice ta b.todo.length tc] 25) := ⟨_, rfl⟩
  have hbW := Lib.hid (show Below w.heap.size w W by rw [hW]; exact Seq.way)
  have R0 := Lib.hid (show Row 25 W w.heap.size [.slice fa b.facts.length fc, .int .i64 b.ver, .bool b.on, .slice ta b.todo.length tc] by rw [hW]; exact Row.new _ [_, _, _, _] _ rfl)
  have hzW : w.heap.size + 1 ≤ W.heap.size := by rw [hW]; simp
  have HW := Lib.hid hW
  clear hW h2 hb
  go_enter Try.func13, Try.ntmps13
  go_wp2_with fail
  rw [← HW.out]
  go_loopw [3] (fun i wr => ∃ k : Nat, k ≤ b.todo.length ∧ i = .int .i64 k ∧ Hid (∀ c ∈ b.todo.take k, factT c.t = true) ∧ Below W.heap.size W wr) (fun i _ => b.todo.length - (intOf i).toNat)
  case atStart => exact ⟨0, Nat.zero_le _, rfl, Lib.hid (by simp), Below.refl _ _⟩
  case round =>
    obtain ⟨k, hk, rfl, hno, hbr⟩ := hrel
    have hbw := below_step hbr hbW.out
    have hzr := hbr.size
    obtain ⟨c0, c1, c2, c3, -, -, -, -⟩ := (R0.out.below hbr (by omega)).four
    by_cases hlt : k < b.todo.length
    · obtain ⟨b1, o1, pa, pc, rfl, -, -, e0, e1, hX⟩ := (h5.below hbw fun _ h _ => h.2).chg hlt
      have hyes := Lib.hid (show factT b.todo[k].t = true → ∀ c ∈ b.todo.take (k + 1), factT c.t = true from fun h c hc => by
        rw [List.take_succ_eq_append_getElem hlt] at hc
        rcases List.mem_append.1 hc with hc | hc
        · exact hno.out c hc
        · rw [List.mem_singleton] at hc; rw [hc]; exact h)
      have hnot := Lib.hid (show factT b.todo[k].t = false → rightB b = false from fun h => by
        unfold rightB
        rw [Bool.and_eq_false_iff]
        refine .inr ?_
        rw [List.all_eq_false]
        exact ⟨b.todo[k], List.getElem_mem hlt, by rw [h]; simp⟩)
      obtain ⟨c, hc⟩ : ∃ c, c = b.todo[k] := ⟨_, rfl⟩
      rw [← hc] at e0 e1 hX hyes hnot
      have HX := Lib.hid hX
      clear hc h5 hno hX
      have hkl : (k : Int) < (b.todo.length : Int) := by omega
      have hk0 : (0 : Int) ≤ (k : Int) := by omega
      go_wp2_with fail
      refine (FactR_spec HX.out).mono ?_
      rintro e w1 ⟨rfl, hb1⟩
      have hbr1 := below_step hb1 hbr
      cases hf : factT c.t
      · have hx := Lib.hid (hnot.out hf)
        clear hf
        go_wp2_with fail
        go_ret
        exact ⟨ret_bool hx.out.symm, below_step hbr1 hbW.out⟩
      · have hx := Lib.hid (hyes.out hf)
        clear hf
        go_wp2_with fail
        go_roundw
        case rel => exact ⟨k + 1, hlt, by go_num, hx, hbr1⟩
        case measure => simp [intOf]; omega
    · obtain rfl : k = b.todo.length := by omega
      have hx := Lib.hid (show rightB b = (rowR b.facts && decide (0 ≤ b.ver) && decide (b.ver ≤ 1099511627776) && (b.on || decide (b.todo.length = 0))) by
        unfold rightB
        rw [List.all_eq_true.2 fun c hc => hno.out c (by rw [List.take_length]; exact hc), Bool.and_true])
      clear h5 hno
      go_wp2_with fail
      refine (RightR12_spec (H2.out.at hbw)).mono ?_
      rintro e w1 ⟨rfl, hb1⟩
      have hbr1 := below_step hb1 hbr
      obtain ⟨d0, d1, d2, d3, -, -, -, -⟩ := (R0.out.below hbr1 (by omega)).four
      have hbw1 := below_step hbr1 hbW.out
      clear c0 c1 c2 c3
      obtain ⟨q, hq⟩ : ∃ q, q = rowR b.facts := ⟨_, rfl⟩
      obtain ⟨on, hon⟩ : ∃ on, on = b.on := ⟨_, rfl⟩
      rw [← hq, ← hon] at hx
      rw [← hq]
      rw [← hon] at d2
      clear hq hon
      cases q
      · go_wp2_with fail
        go_ret
        exact ⟨ret_bool (by rw [hx.out]; rfl), hbw1⟩
      · by_cases hv0 : 0 ≤ b.ver
        · by_cases hv1 : b.ver ≤ 1099511627776
          · cases on
            · go_wp2_with fail
              go_ret
              exact ⟨ret_bool (by rw [hx.out, Bool.eq_iff_iff]; simp [hv0, hv1]), hbw1⟩
            · go_wp2_with fail
              go_ret
              exact ⟨ret_bool (by rw [hx.out]; simp [hv0, hv1]), hbw1⟩
          · go_wp2_with fail
            go_ret
            exact ⟨ret_bool (by rw [hx.out, decide_eq_false (show ¬ b.ver ≤ 1099511627776 by omega)]; simp), hbw1⟩
        · go_wp2_with fail
          go_ret
          exact ⟨ret_bool (by rw [hx.out, decide_eq_false (show ¬ 0 ≤ b.ver by omega)]; simp), hbw1⟩
end Go.Proofs.Yteefdmpaclnaiaa
