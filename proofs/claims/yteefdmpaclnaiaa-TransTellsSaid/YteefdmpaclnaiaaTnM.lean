/-
  Layer 13: are two bases the same? (R13.Same)
-/
import Derived.Test.YteefdmpaclnaiaaTnL
import Derived.BigQuiet
namespace Go.Proofs.Yteefdmpaclnaiaa
open Go Go.RowKit
instance : DecidableEq Chg := fun a b => decidable_of_iff (a.add = b.add ∧ a.t = b.t) (by cases a; cases b; simp)
instance : DecidableEq Bas := fun a b => decidable_of_iff (a.facts = b.facts ∧ a.ver = b.ver ∧ a.on = b.on ∧ a.todo = b.todo) (by cases a; cases b; simp)
theorem bas_eq {a b : Bas} : a = b ↔ a.facts = b.facts ∧ a.ver = b.ver ∧ a.on = b.on ∧ a.todo = b.todo := by cases a; cases b; simp

set_option maxHeartbeats 4000000 in
set_option maxRecDepth 100000 in
theorem SameB_spec {S T : Nat → Prop} {w : World} {v u : Value} {a b : Bas} (ha : BasV S w v a) (hb : BasV T w u b) :
    Calls Try.prog 23 #[v, u] w (RetV (.bool (decide (a = b))) w) := by
  obtain ⟨fa, fc, ta, tc, rfl, h1, h2, h3⟩ := ha.bnd
  obtain ⟨ga, gc, ua, uc, rfl, k1, k2, k3⟩ := hb.bnd
  have H2 := Lib.hid h2
  have K2 := Lib.hid k2
  obtain ⟨_, _, ee, -, -, hal, -, h5⟩ := h3
  obtain ⟨_, _, ee', -, -, hbl, -, k5⟩ := k3
  simp only [Value.slice.injEq, true_and] at ee ee'
  obtain ⟨rfl, rfl⟩ := ee
  obtain ⟨rfl, rfl⟩ := ee'
  have hiff := Lib.hid (@bas_eq a b)
  obtain ⟨W, hW⟩ : ∃ W, W = (w.alloc (.cells #[.slice fa a.facts.length fc, .int .i64 a.ver, .bool a.on, .slice ta a.todo.length tc] 25)).alloc (.cells #[.slice ga b.facts.length gc, .int .i64 b.ver, .bool b.on, .slice ua b.todo.length uc] 25) := ⟨_, rfl⟩
  have hbW := Lib.hid (show Below w.heap.size w W by rw [hW]; exact Seq.way)
  have R0 := Lib.hid (show Row 25 W w.heap.size [.slice fa a.facts.length fc, .int .i64 a.ver, .bool a.on, .slice ta a.todo.length tc] by rw [hW]; exact (Row.new _ [_, _, _, _] _ rfl).alloc _)
  have R1 := Lib.hid (show Row 25 W (w.heap.size + 1) [.slice ga b.facts.length gc, .int .i64 b.ver, .bool b.on, .slice ua b.todo.length uc] by rw [hW]; exact Row.new _ [_, _, _, _] _ (by simp))
  have hzW : w.heap.size + 2 ≤ W.heap.size := by rw [hW]; simp
  have HW := Lib.hid hW
  clear hW h2 k2 ha hb
  obtain ⟨an, han⟩ : ∃ an, an = a.on := ⟨_, rfl⟩
  obtain ⟨bn, hbn⟩ : ∃ bn, bn = b.on := ⟨_, rfl⟩
  rw [← han] at R0 HW ⊢
  rw [← hbn] at R1 HW ⊢
  obtain ⟨c0, c1, c2, c3, -, -, -, -⟩ := R0.out.four
  obtain ⟨q0, q1, q2, q3, -, -, -, -⟩ := R1.out.four
  go_enter Try.func23, Try.ntmps23
  by_cases hon : an = bn
  · have hone := Lib.hid (show a.on = b.on from han.symm.trans (hon.trans hbn))
    clear han hbn
    subst hon
    by_cases hver : a.ver = b.ver
    · by_cases hlen : a.todo.length = b.todo.length
      · have Hver := Lib.hid hver
        have Hlen := Lib.hid hlen
        rw [hver, hlen] at R0 HW
        rw [hver] at c1
        rw [hlen] at c3 hal ⊢
        rw [hver]
        clear hver hlen
        go_wp2_with fail
        rw [← HW.out]
        refine (SameAll_spec (H2.out.at hbW.out) (K2.out.at hbW.out)).mono ?_
        rintro e w1 ⟨rfl, hq1⟩
        have hb1 := Lib.hid (hq1.below W.heap.size)
        obtain ⟨c0, c1, c2, c3, -, -, -, -⟩ := (R0.out.below hb1.out (by omega)).four
        obtain ⟨q0, q1, q2, q3, -, -, -, -⟩ := (R1.out.below hb1.out (by omega)).four
        have hz1 := hb1.out.size
        clear hq1
        by_cases hfa : a.facts = b.facts
        · have Hfa := Lib.hid hfa
          have hd : decide (a.facts = b.facts) = true := by simp [hfa]
          rw [hd]
          clear hd hfa
          go_wp2_with fail
          obtain ⟨n, hn⟩ : ∃ n, n = b.todo.length := ⟨_, rfl⟩
          have Hn := Lib.hid hn
          rw [← hn] at c3 q3 R0 R1 HW hal
          clear hn c0 c1 c2 q0 q1 q2 hbl
          go_loopw [5] (fun i wr => ∃ k : Nat, k ≤ n ∧ i = .int .i64 k ∧ Hid (∀ j, j < k → a.todo[j]? = b.todo[j]?) ∧ Below w1.heap.size w1 wr) (fun i _ => n - (intOf i).toNat)
          case atStart => exact ⟨0, Nat.zero_le _, rfl, Lib.hid (by simp), Below.refl _ _⟩
          case round =>
            obtain ⟨k, hk, rfl, hno, hbr⟩ := hrel
            have hzr := hbr.size
            obtain ⟨c0, c1, c2, c3, -, -, -, -⟩ := (R0.out.below (below_step hbr hb1.out) (by omega)).four
            obtain ⟨q0, q1, q2, q3, -, -, -, -⟩ := (R1.out.below (below_step hbr hb1.out) (by omega)).four
            have hbw := below_step (below_step hbr hb1.out) hbW.out
            by_cases hlt : k < n
            · have hka : k < a.todo.length := by rw [Hlen.out, ← Hn.out]; exact hlt
              have hkb : k < b.todo.length := by rw [← Hn.out]; exact hlt
              obtain ⟨b1, o1, p1, n1, rfl, -, hlb, e0, e1, hX⟩ := (h5.below hbw fun _ h _ => h.2).chg hka
              obtain ⟨b2, o2, p2, n2, rfl, -, hlb2, g0, g1, hY⟩ := (k5.below hbw fun _ h _ => h.2).chg hkb
              have hx := Lib.hid (show a.todo[k] = b.todo[k] → ∀ j, j < k + 1 → a.todo[j]? = b.todo[j]? from fun h => all_succ hno.out hka hkb h)
              have hn := Lib.hid (show a.todo[k] ≠ b.todo[k] → decide (a = b) = false from fun h => decide_eq_false fun e => by subst e; exact h rfl)
              have HX := Lib.hid hX
              have HY := Lib.hid hY
              clear hX hY
              obtain ⟨⟨xa, xt⟩, hxe⟩ : ∃ x, x = a.todo[k] := ⟨_, rfl⟩
              obtain ⟨⟨ya, yt⟩, hye⟩ : ∃ y, y = b.todo[k] := ⟨_, rfl⟩
              rw [← hxe] at e0 e1 HX hx hn
              rw [← hye] at g0 g1 HY hx hn
              dsimp only at e0 e1 HX g0 g1 HY
              clear hxe hye
              have hkl : (k : Int) < (n : Int) := by omega
              have hk0 : (0 : Int) ≤ (k : Int) := by omega
              by_cases had : xa = ya
              · subst had
                go_wp2_with fail
                go_still_tail 26, (by kernel_rfl)
                go_wp2_with fail
                refine (SameT_spec (HX.out.at Seq.way) (HY.out.at Seq.way)).mono ?_
                rintro e w2 ⟨rfl, hq⟩
                have hb2 := Lib.hid (show Below w1.heap.size w1 w2 from hbr.trans (((Drew.trans (Drew.of wr 1) hq).below wr.heap.size).mono hbr.size))
                clear hq
                by_cases he : xt = yt
                · have hx' := Lib.hid (hx.out (by rw [he]))
                  have hd : decide (xt = yt) = true := by simp [he]
                  rw [hd]
                  clear hd he
                  go_wp2_with fail
                  go_roundw
                  case rel => exact ⟨k + 1, hlt, by go_num, hx', hb2.out⟩
                  case measure => simp [intOf]; omega
                · have hn' := Lib.hid (hn.out (fun e => he (by simp only [Chg.mk.injEq] at e; exact e.2)))
                  have hd : decide (xt = yt) = false := by simp [he]
                  rw [hd]
                  clear hd he
                  go_wp2_with fail
                  go_ret
                  exact ⟨ret_bool hn'.out.symm, below_step (below_step hb2.out hb1.out) hbW.out⟩
              · have hn' := Lib.hid (hn.out (fun e => had (by simp only [Chg.mk.injEq] at e; exact e.1)))
                cases xa <;> cases ya <;> first | exact absurd rfl had | skip
                all_goals go_wp2_with fail
                all_goals go_quiet (fail)
                all_goals go_wp2_with fail
                all_goals go_ret
                all_goals exact ⟨ret_bool hn'.out.symm, below_drewN hbw _⟩
            · obtain rfl : k = n := by omega
              have hx := Lib.hid (show decide (a = b) = true from decide_eq_true (hiff.out.2 ⟨Hfa.out, Hver.out, hone.out, all_eq (by rw [← Hn.out] at Hlen; rw [Hlen.out]; exact hno.out) Hlen.out⟩))
              go_wp2_with fail
              go_ret
              exact ⟨ret_bool hx.out.symm, hbw⟩
        · have hx := Lib.hid (show decide (a = b) = false from decide_eq_false fun e => hfa (by rw [e]))
          have hd : decide (a.facts = b.facts) = false := by simp [hfa]
          rw [hd]
          clear hd hfa
          go_wp2_with fail
          go_ret
          exact ⟨ret_bool hx.out.symm, below_step hb1.out hbW.out⟩
      · have hx := Lib.hid (show decide (a = b) = false from decide_eq_false fun e => hlen (by rw [e]))
        have hlen1 : ((a.todo.length : Int) != (b.todo.length : Int)) = true := by rw [bne_iff_ne]; omega
        rw [hver] at R0 HW c1
        rw [hver]
        clear hver hlen
        go_wp2_with fail
        go_ret
        exact ⟨ret_bool hx.out.symm, Seq.way⟩
    · have hx := Lib.hid (show decide (a = b) = false from decide_eq_false fun e => hver (by rw [e]))
      have hver1 : (a.ver != b.ver) = true := by rw [bne_iff_ne]; exact hver
      clear hver
      go_wp2_with fail
      go_ret
      exact ⟨ret_bool hx.out.symm, Seq.way⟩
  · have hx := Lib.hid (show decide (a = b) = false from decide_eq_false fun e => hon (by rw [han, hbn, e]))
    clear han hbn
    cases an <;> cases bn <;> first | exact absurd rfl hon | skip
    all_goals go_wp2_with fail
    all_goals go_ret
    all_goals exact ⟨ret_bool hx.out.symm, Seq.way⟩
end Go.Proofs.Yteefdmpaclnaiaa
