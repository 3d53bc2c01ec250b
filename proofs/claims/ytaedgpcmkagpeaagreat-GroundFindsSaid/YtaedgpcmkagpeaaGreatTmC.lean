/-
  R01: right terms, the same ones, variables, ground ones, the order.
-/
import Derived.Test.YtaedgpcmkagpeaaGreatTmB
import Derived.Deep.QuietTactic
import Derived.StillTailTactics
namespace Go.Proofs.YtaedgpcmkagpeaaGreat
open Go Go.RowKit

theorem rightT_iff (t : List Cell) : rightT t = (decide (1 ≤ t.length) && decide (t.length ≤ 200) && decide (endZ t 0 = (t.length : Int))) := by
  unfold rightT endZ endO
  rw [Bool.eq_iff_iff, decide_eq_true_iff]
  simp only [decide_eq_true_eq, Bool.and_eq_true, List.drop_zero]
  show (t.length ≤ 200 ∧ endC 1 t = some t.length) ↔ _
  have h := @endC_le t 1
  cases he : endC 1 t with
  | none => simp [optZ]
  | some m =>
    have := h he
    simp [optZ]; omega

theorem RightR_spec {S : Nat → Prop} {w : World} {v : Value} {t : List Cell} (ht : Seq cellE S w v t) :
    Calls Tryz.prog 94 #[v] w (RetV (.bool (rightT t)) w) := by
  have Ht := Lib.hid ht
  have hr := Lib.hid (rightT_iff t)
  obtain ⟨ao, cap, rfl, h1, h2, h3, -⟩ := ht
  go_enter Tryz.func94, Tryz.ntmps94
  by_cases hl : 1 ≤ t.length ∧ t.length ≤ 200
  · obtain ⟨hl1, hl2⟩ := hl
    go_wp2_with fail
    refine (End_spec (at_ := 0) (Ht.out) (Nat.zero_le _)).mono ?_
    rintro e w1 ⟨rfl, hb1⟩
    go_wp2_with fail
    go_ret
    refine ⟨ret_bool ?_, hb1⟩
    rw [hr.out, Bool.eq_iff_iff]
    simp [hl1, hl2]
  · by_cases hl1 : 1 ≤ t.length
    · have hl2 : ¬ t.length ≤ 200 := fun h => hl ⟨hl1, h⟩
      go_wp2_with fail
      go_ret
      refine ⟨ret_bool ?_, Below.refl _ _⟩
      rw [hr.out]
      simp [hl2]
    · go_wp2_with fail
      go_ret
      refine ⟨ret_bool ?_, Below.refl _ _⟩
      rw [hr.out]
      simp [hl1]

/-! ### The same -/
theorem all_succ {α : Type} {l m : List α} {k : Nat} (h : ∀ j, j < k → l[j]? = m[j]?) (h1 : k < l.length) (h2 : k < m.length) (he : l[k] = m[k]) : ∀ j, j < k + 1 → l[j]? = m[j]? := by
  intro j hj
  by_cases hjk : j < k
  · exact h j hjk
  · obtain rfl : j = k := by omega
    rw [List.getElem?_eq_getElem h1, List.getElem?_eq_getElem h2, he]
theorem all_eq {α : Type} {l m : List α} (h : ∀ j, j < l.length → l[j]? = m[j]?) (h1 : l.length = m.length) : l = m := by
  apply List.ext_getElem?
  intro j
  by_cases hj : j < l.length
  · exact h j hj
  · rw [List.getElem?_eq_none (by omega), List.getElem?_eq_none (by omega)]
theorem cell_ne {x y : Cell} (h : ¬ x = y) : (x.kind == y.kind) = false ∨ ((x.kind == y.kind) = true ∧ (x.name.toList == y.name.toList) = false) ∨
    ((x.kind == y.kind) = true ∧ (x.name.toList == y.name.toList) = true ∧ (x.n == y.n) = false) := by
  by_cases h1 : x.kind = y.kind
  · by_cases h2 : x.name = y.name
    · refine .inr (.inr ⟨by simp [h1], by simp [h2], ?_⟩)
      rw [beq_eq_false_iff_ne]
      intro h3
      apply h
      cases x; cases y; simp_all
    · refine .inr (.inl ⟨by simp [h1], ?_⟩)
      rw [beq_eq_false_iff_ne]
      exact fun h3 => h2 (toList_inj h3)
  · exact .inl (by simp [h1])

set_option maxHeartbeats 1600000 in
set_option maxRecDepth 100000 in
theorem SameT_spec {S T : Nat → Prop} {w : World} {v u : Value} {a b : List Cell} (ha : Seq cellE S w v a) (hb : Seq cellE T w u b) :
    Calls Tryz.prog 28 #[v, u] w (QuietV (.bool (decide (a = b))) w) := by
  obtain ⟨aa, ac, rfl, -, -, hal, -, ha5⟩ := ha
  obtain ⟨ba, bc, rfl, -, -, hbl, -, hb5⟩ := hb
  go_enter Tryz.func28, Tryz.ntmps28
  by_cases hl : a.length = b.length
  · have hl' : ((a.length : Int) != (b.length : Int)) = false := by simp [hl]
    have Hl := Lib.hid hl
    clear hl
    go_wp2_with fail
    go_loopw [5] (fun i wr => ∃ k : Nat, k ≤ a.length ∧ i = .int .i64 k ∧ Hid (∀ j, j < k → a[j]? = b[j]?) ∧ Drew w wr) (fun i _ => a.length - (intOf i).toNat)
    case atStart => exact ⟨0, Nat.zero_le _, rfl, Lib.hid (by simp), Drew.refl _⟩
    case round =>
      obtain ⟨k, hk, rfl, hno, hdr⟩ := hrel
      obtain ⟨q, rfl⟩ := hdr
      by_cases hka : k < a.length
      · have hkb : k < b.length := by rw [← Hl.out]; exact hka
        obtain ⟨b1, o1, rfl, -, -, c0, c1, c2, -⟩ := ha5.cell hka
        obtain ⟨b2, o2, rfl, -, -, d0, d1, d2, -⟩ := hb5.cell hkb
        have hx := Lib.hid (show a[k] = b[k] → ∀ j, j < k + 1 → a[j]? = b[j]? from fun h => all_succ hno.out hka hkb h)
        have hn := Lib.hid (show a[k] ≠ b[k] → decide (a = b) = false from fun h => decide_eq_false fun e => by subst e; exact h rfl)
        clear ha5 hb5
        obtain ⟨x, hxe⟩ : ∃ x, x = a[k] := ⟨_, rfl⟩
        obtain ⟨y, hye⟩ : ∃ y, y = b[k] := ⟨_, rfl⟩
        rw [← hxe] at c0 c1 c2 hx hn
        rw [← hye] at d0 d1 d2 hx hn
        clear hxe hye
        have hkl : (k : Int) < (a.length : Int) := by omega
        have hkm : (k : Int) < (b.length : Int) := by omega
        have hk0 : (0 : Int) ≤ (k : Int) := by omega
        by_cases he : x = y
        · have hx' := Lib.hid (hx.out he)
          subst he
          clear hx hn
          go_wp2_with fail
          go_quiet (fail)
          go_wp2_with fail
          go_roundw
          case rel => exact ⟨k + 1, hka, by go_num, hx', (by repeat (first | exact Drew.of _ _ | refine Drew.drewN ?_ _))⟩
          case measure => simp [intOf]; omega
        · have hn' := Lib.hid (hn.out he)
          rcases cell_ne he with q1 | ⟨q1, q2⟩ | ⟨q1, q2, q3⟩
          all_goals
            clear hx hn he
            go_wp2_with fail
            go_quiet (fail)
            go_wp2_with fail
            go_ret
            exact ⟨ret_bool hn'.out.symm, (by repeat (first | exact Drew.of _ _ | refine Drew.drewN ?_ _))⟩
      · obtain rfl : k = a.length := by omega
        have he := Lib.hid (show decide (a = b) = true from decide_eq_true (all_eq hno.out Hl.out))
        go_wp2_with fail
        go_ret
        exact ⟨ret_bool he.out.symm, Drew.of _ _⟩
  · have hd := Lib.hid (show decide (a = b) = false from decide_eq_false fun h => hl (by rw [h]))
    go_wp2_with fail
    go_ret
    exact ⟨ret_bool hd.out.symm, Drew.refl _⟩

theorem Drew.below {w w' : World} (h : Drew w w') (B : Nat) : Below B w w' := by
  obtain ⟨n, rfl⟩ := h
  exact below_drewN (Below.refl _ _) _
theorem Drew.trans {w w1 w2 : World} (h : Drew w w1) (h' : Drew w1 w2) : Drew w w2 := by
  obtain ⟨n, rfl⟩ := h
  obtain ⟨m, rfl⟩ := h'
  exact ⟨n + m, by rw [World.drewN_drewN]⟩
theorem Drew.drew {w w' : World} (h : Drew w w') : Drew w w'.drew := h.drewN 1
theorem drew_more {w w1 : World} {q : Nat} (h : Drew (w.drewN q) w1) : Drew w w1 := by
  obtain ⟨n, rfl⟩ := h
  exact ⟨q + n, by rw [World.drewN_drewN]⟩

set_option maxHeartbeats 1600000 in
set_option maxRecDepth 100000 in
theorem SameAll_spec {S T : Nat → Prop} {w : World} {v u : Value} {a b : List (List Cell)} (ha : Seq (seqE cellE) S w v a) (hb : Seq (seqE cellE) T w u b) :
    Calls Tryz.prog 29 #[v, u] w (QuietV (.bool (decide (a = b))) w) := by
  obtain ⟨aa, ac, rfl, -, -, hal, -, ha5⟩ := ha
  obtain ⟨ba, bc, rfl, -, -, hbl, -, hb5⟩ := hb
  go_enter Tryz.func29, Tryz.ntmps29
  by_cases hl : a.length = b.length
  · have hl' : ((a.length : Int) != (b.length : Int)) = false := by simp [hl]
    have Hl := Lib.hid hl
    clear hl
    go_wp2_with fail
    go_loopw [5] (fun i wr => ∃ k : Nat, k ≤ a.length ∧ i = .int .i64 k ∧ Hid (∀ j, j < k → a[j]? = b[j]?) ∧ Drew w wr) (fun i _ => a.length - (intOf i).toNat)
    case atStart => exact ⟨0, Nat.zero_le _, rfl, Lib.hid (by simp), Drew.refl _⟩
    case round =>
      obtain ⟨k, hk, rfl, hno, hdr⟩ := hrel
      have hbr := hdr.below w.heap.size
      have hzr := hbr.size
      by_cases hka : k < a.length
      · have hkb : k < b.length := by rw [← Hl.out]; exact hka
        obtain ⟨b1, o1, p1, n1, rfl, -, -, c0, hX⟩ := (ha5.below hbr fun _ _ h => h).seq hka
        obtain ⟨b2, o2, p2, n2, rfl, -, -, d0, hY⟩ := (hb5.below hbr fun _ _ h => h).seq hkb
        have hx := Lib.hid (show a[k] = b[k] → ∀ j, j < k + 1 → a[j]? = b[j]? from fun h => all_succ hno.out hka hkb h)
        have hn := Lib.hid (show a[k] ≠ b[k] → decide (a = b) = false from fun h => decide_eq_false fun e => by subst e; exact h rfl)
        have HX := Lib.hid hX
        have HY := Lib.hid hY
        clear hX hY
        obtain ⟨x, hxe⟩ : ∃ x, x = a[k] := ⟨_, rfl⟩
        obtain ⟨y, hye⟩ : ∃ y, y = b[k] := ⟨_, rfl⟩
        rw [← hxe] at c0 HX hx hn
        rw [← hye] at d0 HY hx hn
        clear hxe hye
        have hkl : (k : Int) < (a.length : Int) := by omega
        have hkm : (k : Int) < (b.length : Int) := by omega
        have hk0 : (0 : Int) ≤ (k : Int) := by omega
        go_wp2_with fail
        go_still_tail 8, (by kernel_rfl)
        go_wp2_with fail
        refine (SameT_spec (HX.out.at Seq.way) (HY.out.at Seq.way)).mono ?_
        rintro e w1 ⟨rfl, hq⟩
        have hq' : Drew w w1 := hdr.trans (Drew.trans (Drew.of wr 1) hq)
        clear hq
        by_cases he : x = y
        · have hx' := Lib.hid (hx.out he)
          have hd : decide (x = y) = true := by simp [he]
          rw [hd]
          go_wp2_with fail
          go_roundw
          case rel => exact ⟨k + 1, hka, by go_num, hx', hq'⟩
          case measure => simp [intOf]; omega
        · have hn' := Lib.hid (hn.out he)
          have hd : decide (x = y) = false := by simp [he]
          rw [hd]
          go_wp2_with fail
          go_ret
          exact ⟨ret_bool hn'.out.symm, hq'⟩
      · obtain rfl : k = a.length := by omega
        have he := Lib.hid (show decide (a = b) = true from decide_eq_true (all_eq hno.out Hl.out))
        go_wp2_with fail
        go_ret
        exact ⟨ret_bool he.out.symm, hdr⟩
  · have hd := Lib.hid (show decide (a = b) = false from decide_eq_false fun h => hl (by rw [h]))
    go_wp2_with fail
    go_ret
    exact ⟨ret_bool hd.out.symm, Drew.refl _⟩
end Go.Proofs.YtaedgpcmkagpeaaGreat
