/-
  Layer 18's reference: Same, Reduce and Size.
-/
import Derived.Test.YtdbennmbbmoflaaResH
namespace Go.Proofs.Ytdbennmbbmoflaa
open Go Go.RowKit

instance : DecidableEq Cell := fun a b => decidable_of_iff (a.kind = b.kind ∧ a.name = b.name ∧ a.n = b.n) (by cases a; cases b; simp)
instance : DecidableEq Rule := fun a b => decidable_of_iff (a.head = b.head ∧ a.pos = b.pos ∧ a.neg = b.neg) (by cases a; cases b; simp)
instance : DecidableEq Prog := fun a b => decidable_of_iff (a.atoms = b.atoms ∧ a.rules = b.rules) (by cases a; cases b; simp)

theorem lessL_zero : ∀ {l m : List Int}, lessL l m = 0 ↔ l = m
  | [], [] => by simp [lessL]
  | [], _ :: _ => by simp [lessL]
  | _ :: _, [] => by simp [lessL]
  | a :: l, b :: m => by
    have ih := @lessL_zero l m
    unfold lessL
    split
    · simp; omega
    · split
      · simp; omega
      · rw [ih]
        have : a = b := by omega
        simp [this]

theorem all_succ {α : Type} {l m : List α} {k : Nat} (h : ∀ j, j < k → l[j]? = m[j]?) (h1 : k < l.length) (h2 : k < m.length) (he : l[k] = m[k]) : ∀ j, j < k + 1 → l[j]? = m[j]? := by
  intro j hj
  by_cases hjk : j < k
  · exact h j hjk
  · obtain rfl : j = k := by omega
    rw [List.getElem?_eq_getElem h1, List.getElem?_eq_getElem h2, he]
theorem all_eq {α : Type} {l m : List α} (h : ∀ j, j < l.length → l[j]? = m[j]?) (h1 : l.length = m.length) : l = m := by
  apply List.ext_getElem? 
  intro j
  by_cases hj : j < l.length
  · exact h j hj
  · rw [List.getElem?_eq_none (by omega), List.getElem?_eq_none (by omega)]
theorem cell_ne {x y : Cell} (h : ¬ x = y) : (x.kind == y.kind) = false ∨ ((x.kind == y.kind) = true ∧ (x.name.toList == y.name.toList) = false) ∨
    ((x.kind == y.kind) = true ∧ (x.name.toList == y.name.toList) = true ∧ (x.n == y.n) = false) := by
  by_cases h1 : x.kind = y.kind
  · by_cases h2 : x.name = y.name
    · refine .inr (.inr ⟨by simp [h1], by simp [h2], ?_⟩)
      rw [beq_eq_false_iff_ne]
      intro h3
      apply h
      cases x; cases y; simp_all
    · refine .inr (.inl ⟨by simp [h1], ?_⟩)
      rw [beq_eq_false_iff_ne]
      intro h3
      rw [ByteArray.toList_eq, ByteArray.toList_eq] at h3
      exact h2 (by cases hx : x.name; cases hy : y.name; rw [hx, hy] at h3; simp only at h3; rw [Array.toList_inj.1 h3])
  · exact .inl (by simp [h1])

theorem orderR_zero {a b : Rule} : orderR a b = 0 ↔ a = b := by
  have hp := @lessL_zero a.pos b.pos
  have hn := @lessL_zero a.neg b.neg
  have he : a = b ↔ a.head = b.head ∧ a.pos = b.pos ∧ a.neg = b.neg := by cases a; cases b; simp
  rw [he, ← hp, ← hn]
  unfold orderR
  simp only
  by_cases h1 : a.head < b.head
  · simp [h1]; omega
  · by_cases h2 : b.head < a.head
    · simp [h1, h2]; omega
    · have : a.head = b.head := by omega
      simp only [h1, h2, if_false, if_true]
      split <;> simp_all

set_option maxHeartbeats 1600000 in
set_option maxRecDepth 100000 in
theorem Same_spec {S T : Nat → Prop} {w : World} {v u : Value} {a b : Prog} (ha : ProgV S w v a) (hb : ProgV T w u b) :
    Calls Try.prog 16 #[v, u] w (RetV (.bool (decide (a = b))) w) := by
  obtain ⟨va, vr, rfl, h1, h2⟩ := ha
  obtain ⟨ua, ur, rfl, g1, g2⟩ := hb
  obtain ⟨aa, ac, rfl, -, -, hal, -, ha5⟩ := id h1
  obtain ⟨ra, rc, rfl, -, -, hrl, -, hr5⟩ := id h2
  obtain ⟨ba, bc, rfl, -, -, hbl, -, hb5⟩ := id g1
  obtain ⟨sa, sc, rfl, -, -, hsl, -, hs5⟩ := id g2
  by_cases hle : a.atoms.length = b.atoms.length ∧ a.rules.length = b.rules.length
  case neg =>
    have hd := Lib.hid (show decide (a = b) = false by
      rw [decide_eq_false_iff_not]; rintro rfl; exact hle ⟨rfl, rfl⟩)
    by_cases hl1 : a.atoms.length = b.atoms.length
    · have hl2 : a.rules.length ≠ b.rules.length := fun h => hle ⟨hl1, h⟩
      clear ha5 hr5 hb5 hs5
      go_enter Try.func16, Try.ntmps16
      go_wp2_with fail
      go_ret
      exact ⟨ret_bool hd.out.symm, Seq.way⟩
    · clear ha5 hr5 hb5 hs5
      go_enter Try.func16, Try.ntmps16
      go_wp2_with fail
      go_ret
      exact ⟨ret_bool hd.out.symm, Seq.way⟩
  case pos =>
    obtain ⟨hle1, hle2⟩ := hle
    obtain ⟨W0, hW0⟩ : ∃ W0, W0 = (w.alloc (.cells #[.slice aa a.atoms.length ac, .slice ra a.rules.length rc] 30)).alloc (.cells #[.slice ba b.atoms.length bc, .slice sa b.rules.length sc] 30) := ⟨_, rfl⟩
    have HW := Lib.hid hW0
    have hB0 : Below w.heap.size w W0 := by rw [hW0]; exact Seq.way
    have hs0 : W0.heap.size = w.heap.size + 2 := by rw [hW0]; simp
    have hrow0 : Row 30 W0 w.heap.size [.slice aa a.atoms.length ac, .slice ra a.rules.length rc] := by rw [hW0]; exact (Row.new w _ _ rfl).alloc _
    have hrow1 : Row 30 W0 (w.heap.size + 1) [.slice ba b.atoms.length bc, .slice sa b.rules.length sc] := by rw [hW0]; exact Row.new _ _ _ (by simp)
    clear hW0
    have c0 := hrow0.cell (j := 0) (by simp)
    have c1 := hrow0.cell (j := 1) (by simp)
    have d0 := hrow1.cell (j := 0) (by simp)
    have d1 := hrow1.cell (j := 1) (by simp)
    simp only [List.getElem_cons_succ, List.getElem_cons_zero] at c0 c1 d0 d1
    have hz0 : w.heap.size < W0.heap.size := by omega
    have hz1 : w.heap.size + 1 < W0.heap.size := by omega
    have hs0' := Lib.hid hs0
    clear hs0 hrow0 hrow1
    have hA := Lib.hid (ha5.below hB0 fun _ _ h => h)
    have hAb := Lib.hid (hb5.below hB0 fun _ _ h => h)
    have hR := Lib.hid (hr5.below hB0 fun _ _ h => h)
    have hRb := Lib.hid (hs5.below hB0 fun _ _ h => h)
    have hle1' := Lib.hid hle1
    have hle2' := Lib.hid hle2
    clear ha5 hb5 hr5 hs5 h1 h2 g1 g2
    have hne1 : ((a.atoms.length : Int) != (b.atoms.length : Int)) = false := by simp [hle1]
    have hne2 : ((a.rules.length : Int) != (b.rules.length : Int)) = false := by simp [hle2]
    clear hle1 hle2
    go_enter Try.func16, Try.ntmps16
    go_wp2_with fail
    rw [← HW.out]
    clear HW
    go_loopw [5] (fun i wr => ∃ k : Nat, k ≤ a.atoms.length ∧ i = .int .i64 k ∧ Hid (∀ j, j < k → a.atoms[j]? = b.atoms[j]?) ∧ Below W0.heap.size W0 wr) (fun i _ => a.atoms.length - (intOf i).toNat)
    case atStart => exact ⟨0, Nat.zero_le _, rfl, Lib.hid (by simp), Below.refl _ _⟩
    case round =>
      obtain ⟨k, hk, rfl, hno, hbel⟩ := hrel
      have e0 : wr.cell? ⟨w.heap.size, 0, none⟩ = _ := (hbel.cell (p := ⟨w.heap.size, 0, none⟩) hz0).trans c0
      have e1 : wr.cell? ⟨w.heap.size + 1, 0, none⟩ = _ := (hbel.cell (p := ⟨w.heap.size + 1, 0, none⟩) hz1).trans d0
      by_cases hka : k < a.atoms.length
      · obtain ⟨A1, oA1, pa, pc, rfl, -, hA1, x0, hX⟩ := (hA.out.below hbel fun _ _ h => h).seq hka
        have hkb : k < b.atoms.length := by have := hle1'.out; omega
        obtain ⟨A2, oA2, qa, qc, rfl, -, hA2, x1, hY⟩ := (hAb.out.below hbel fun _ _ h => h).seq hkb
        by_cases hll : a.atoms[k].length = b.atoms[k].length
        · have hll' : ((a.atoms[k].length : Int) != (b.atoms[k].length : Int)) = false := by simp [hll]
          have hll2 := Lib.hid hll
          have hX' := Lib.hid hX
          have hlx : a.atoms[k].length ≤ 140737488355328 := by obtain ⟨_, _, _, -, -, h, -⟩ := hX; exact h
          have hY' := Lib.hid hY
          clear hX hY hll
          obtain ⟨W1, hW1⟩ : ∃ W1, W1 = wr := ⟨_, rfl⟩
          subst hW1
          go_wp2_with fail
          go_quiet (fail)
          go_wp2_with fail
          go_loopw [6] (fun i wr => ∃ i' : Nat, i' ≤ a.atoms[k].length ∧ i = .int .i64 i' ∧ Hid (∀ j, j < i' → a.atoms[k][j]? = b.atoms[k][j]?) ∧ Below W1.heap.size W1 wr) (fun i _ => a.atoms[k].length - (intOf i).toNat)
          case atStart => exact ⟨0, Nat.zero_le _, rfl, Lib.hid (by simp), Seq.way⟩
          case round =>
            obtain ⟨i', hi, rfl, hno2, hbel2⟩ := hrel
            have e0' : wr.cell? ⟨w.heap.size, 0, none⟩ = _ := (hbel2.cell (p := ⟨w.heap.size, 0, none⟩) (Nat.lt_of_lt_of_le hz0 hbel.size)).trans e0
            have e1' : wr.cell? ⟨w.heap.size + 1, 0, none⟩ = _ := (hbel2.cell (p := ⟨w.heap.size + 1, 0, none⟩) (Nat.lt_of_lt_of_le hz1 hbel.size)).trans e1
            have x0' : wr.cell? ⟨A1, oA1 + k, none⟩ = _ := (hbel2.cell (p := ⟨A1, oA1 + k, none⟩) hA1).trans x0
            have x1' : wr.cell? ⟨A2, oA2 + k, none⟩ = _ := (hbel2.cell (p := ⟨A2, oA2 + k, none⟩) hA2).trans x1
            by_cases hil : i' < a.atoms[k].length
            · have hil2 : i' < b.atoms[k].length := by have := hll2.out; omega
              obtain ⟨_, _, he, -, -, -, -, hX5⟩ := id hX'.out
              injection he with he1 he2 he3; subst he1; subst he3
              obtain ⟨C1, oC1, rfl, -, hC1, y0, y1, y2, yk1, yk2, yk3⟩ := hX5.cell hil
              obtain ⟨_, _, he, -, -, -, -, hY5⟩ := id hY'.out
              injection he with he1 he2 he3; subst he1; subst he3
              obtain ⟨C2, oC2, rfl, -, hC2, u0, u1, u2, -, -, -⟩ := hY5.cell hil2
              replace y0 : wr.cell? ⟨C1, oC1 + i' * 3, none⟩ = _ := (hbel2.cell (p := ⟨C1, oC1 + i' * 3, none⟩) hC1).trans y0
              replace y1 : wr.cell? ⟨C1, oC1 + i' * 3 + 1, none⟩ = _ := (hbel2.cell (p := ⟨C1, oC1 + i' * 3 + 1, none⟩) hC1).trans y1
              replace y2 : wr.cell? ⟨C1, oC1 + i' * 3 + 2, none⟩ = _ := (hbel2.cell (p := ⟨C1, oC1 + i' * 3 + 2, none⟩) hC1).trans y2
              replace u0 : wr.cell? ⟨C2, oC2 + i' * 3, none⟩ = _ := (hbel2.cell (p := ⟨C2, oC2 + i' * 3, none⟩) hC2).trans u0
              replace u1 : wr.cell? ⟨C2, oC2 + i' * 3 + 1, none⟩ = _ := (hbel2.cell (p := ⟨C2, oC2 + i' * 3 + 1, none⟩) hC2).trans u1
              replace u2 : wr.cell? ⟨C2, oC2 + i' * 3 + 2, none⟩ = _ := (hbel2.cell (p := ⟨C2, oC2 + i' * 3 + 2, none⟩) hC2).trans u2
              clear hX5 hY5
              by_cases hcc : a.atoms[k][i'] = b.atoms[k][i']
              · have q1 : (a.atoms[k][i'].kind == b.atoms[k][i'].kind) = true := by rw [hcc]; simp
                have q2 : (a.atoms[k][i'].name.toList == b.atoms[k][i'].name.toList) = true := by rw [hcc]; simp
                have q3 : (a.atoms[k][i'].n == b.atoms[k][i'].n) = true := by rw [hcc]; simp
                have hcc' := Lib.hid hcc
                clear hcc
                go_wp2_with fail
                go_quiet (fail)
                go_wp2_with fail
                go_roundw
                case rel => exact ⟨i' + 1, hil, by go_num, Lib.hid (all_succ hno2.out hil hil2 hcc'.out), hbel2.trans Seq.way⟩
                case measure => simp [intOf]; omega
              · have hd := Lib.hid (show decide (a = b) = false by
                  rw [decide_eq_false_iff_not]; rintro rfl; exact hcc rfl)
                rcases cell_ne hcc with q1 | ⟨q1, q2⟩ | ⟨q1, q2, q3⟩
                all_goals
                  clear hcc
                  go_wp2_with fail
                  go_quiet (fail)
                  go_wp2_with fail
                  go_ret
                  exact ⟨ret_bool hd.out.symm, hB0.trans ((hbel.trans (hbel2.mono hbel.size)).mono (by omega) |>.trans Seq.way)⟩
            · obtain rfl : i' = a.atoms[k].length := by omega
              have heq := Lib.hid (all_eq hno2.out hll2.out)
              go_wp2_with fail
              go_roundw
              case rel => exact ⟨k + 1, hka, by go_num, Lib.hid (all_succ hno.out hka hkb heq.out), hbel.trans (hbel2.mono hbel.size)⟩
              case measure => simp [intOf]; omega
        · have hd := Lib.hid (show decide (a = b) = false by
            rw [decide_eq_false_iff_not]; rintro rfl; exact hll rfl)
          have hll' : ((a.atoms[k].length : Int) != (b.atoms[k].length : Int)) = true := by simp; omega
          clear hX hY
          go_wp2_with fail
          go_quiet (fail)
          go_wp2_with fail
          go_ret
          exact ⟨ret_bool hd.out.symm, hB0.trans (hbel.mono (by omega) |>.trans Seq.way)⟩
      · obtain rfl : k = a.atoms.length := by omega
        have heqA := Lib.hid (all_eq hno.out hle1'.out)
        clear hno e0 e1
        obtain ⟨W1, hW1⟩ : ∃ W1, W1 = wr := ⟨_, rfl⟩
        subst hW1
        have e0 : W1.cell? ⟨w.heap.size, 0, none⟩ = _ := (hbel.cell (p := ⟨w.heap.size, 0, none⟩) hz0).trans c0
        have e1 : W1.cell? ⟨w.heap.size + 1, 0, none⟩ = _ := (hbel.cell (p := ⟨w.heap.size + 1, 0, none⟩) hz1).trans d0
        go_wp2_with fail
        go_loopw [7] (fun i wr => ∃ k : Nat, k ≤ a.rules.length ∧ i = .int .i64 k ∧ Hid (∀ j, j < k → a.rules[j]? = b.rules[j]?) ∧ Below W0.heap.size W0 wr) (fun i _ => a.rules.length - (intOf i).toNat)
        case atStart => exact ⟨0, Nat.zero_le _, rfl, Lib.hid (by simp), hbel⟩
        case round =>
          clear e0 e1
          obtain ⟨k, hk, rfl, hno, hbel3⟩ := hrel
          have e0 : wr.cell? ⟨w.heap.size, 1, none⟩ = _ := (hbel3.cell (p := ⟨w.heap.size, 1, none⟩) hz0).trans c1
          have e1 : wr.cell? ⟨w.heap.size + 1, 1, none⟩ = _ := (hbel3.cell (p := ⟨w.heap.size + 1, 1, none⟩) hz1).trans d1
          by_cases hka : k < a.rules.length
          · obtain ⟨A1, oA1, pa, pc, na, nc, rfl, -, hA1, x0, x1, x2, hxk, hxp, hxn⟩ := (hR.out.below hbel3 fun _ _ h => h).rule hka
            have hkb : k < b.rules.length := by have := hle2'.out; omega
            obtain ⟨A2, oA2, qa, qc, ma, mc, rfl, -, hA2, y0, y1, y2, hyk, hyp, hyn⟩ := (hRb.out.below hbel3 fun _ _ h => h).rule hkb
            have hxp' := Lib.hid hxp
            have hxn' := Lib.hid hxn
            have hyp' := Lib.hid hyp
            have hyn' := Lib.hid hyn
            clear hxp hxn hyp hyn
            by_cases hee : orderR a.rules[k] b.rules[k] = 0
            · have hz : (orderR a.rules[k] b.rules[k] != 0) = false := by simp [hee]
              have hee' := Lib.hid (orderR_zero.1 hee)
              clear hee
              go_wp2_with fail
              go_still_tail 10, (by kernel_rfl)
              go_wp2_with fail
              refine (Order_spec ⟨_, _, rfl, hxk, (hxp'.out.below Seq.way fun _ _ h => h), (hxn'.out.below Seq.way fun _ _ h => h)⟩ ⟨_, _, rfl, hyk, (hyp'.out.below Seq.way fun _ _ h => h), (hyn'.out.below Seq.way fun _ _ h => h)⟩).mono ?_
              rintro e w2 ⟨rfl, hb2⟩
              have hb3 : Below wr.heap.size wr w2 := (show Below wr.heap.size wr _ from Seq.way).trans hb2
              go_wp2_with fail
              go_roundw
              case rel => exact ⟨k + 1, hka, by go_num, Lib.hid (all_succ hno.out hka hkb hee'.out), hbel3.trans (hb3.mono hbel3.size)⟩
              case measure => simp [intOf]; omega
            · have hz : (orderR a.rules[k] b.rules[k] != 0) = true := by simp [hee]
              have hd := Lib.hid (show decide (a = b) = false by
                rw [decide_eq_false_iff_not]; rintro rfl; exact hee (orderR_zero.2 rfl))
              clear hee
              go_wp2_with fail
              go_still_tail 10, (by kernel_rfl)
              go_wp2_with fail
              refine (Order_spec ⟨_, _, rfl, hxk, (hxp'.out.below Seq.way fun _ _ h => h), (hxn'.out.below Seq.way fun _ _ h => h)⟩ ⟨_, _, rfl, hyk, (hyp'.out.below Seq.way fun _ _ h => h), (hyn'.out.below Seq.way fun _ _ h => h)⟩).mono ?_
              rintro e w2 ⟨rfl, hb2⟩
              have hb3 : Below wr.heap.size wr w2 := (show Below wr.heap.size wr _ from Seq.way).trans hb2
              go_wp2_with fail
              go_ret
              exact ⟨ret_bool hd.out.symm, hB0.trans ((hbel3.trans (hb3.mono hbel3.size)).mono (by omega))⟩
          · obtain rfl : k = a.rules.length := by omega
            have heqR := all_eq hno.out hle2'.out
            have hd := Lib.hid (show decide (a = b) = true by
              have := heqA.out
              cases a; cases b; simp_all)
            clear heqR
            go_wp2_with fail
            go_ret
            exact ⟨ret_bool hd.out.symm, hB0.trans (hbel3.mono (by omega))⟩
end Go.Proofs.Ytdbennmbbmoflaa
