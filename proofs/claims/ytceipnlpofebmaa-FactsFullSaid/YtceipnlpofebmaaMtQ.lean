/-
  R12: Same, Find.
-/
import Derived.Test.YtceipnlpofebmaaMtM
import Derived.Test.YtceipnlpofebmaaMtP
namespace Go.Proofs.Ytceipnlpofebmaa
open Go Go.RowKit

set_option maxHeartbeats 1600000 in
set_option maxRecDepth 100000 in
theorem SameR12_spec {S T : Nat → Prop} {w : World} {v u : Value} {a b : List (List Cell)} (ha : Seq (seqE cellE) S w v a) (hb : Seq (seqE cellE) T w u b) :
    Calls Try.prog 8 #[v, u] w (QuietV (.bool (decide (a = b))) w) := by
  obtain ⟨aa, ac, rfl, -, -, hal, -, ha5⟩ := ha
  obtain ⟨ba, bc, rfl, -, -, hbl, -, hb5⟩ := hb
  go_enter Try.func8, Try.ntmps8
  by_cases hl : a.length = b.length
  · have hl' : ((a.length : Int) != (b.length : Int)) = false := by simp [hl]
    have Hl := Lib.hid hl
    clear hl
    go_wp2_with fail
    go_loopw [5] (fun i wr => ∃ k : Nat, k ≤ a.length ∧ i = .int .i64 k ∧ Hid (∀ j, j < k → a[j]? = b[j]?) ∧ Drew w wr) (fun i _ => a.length - (intOf i).toNat)
    case atStart => exact ⟨0, Nat.zero_le _, rfl, Lib.hid (by simp), Drew.refl _⟩
    case round =>
      obtain ⟨k, hk, rfl, hno, hdr⟩ := hrel
      have hbr := hdr.below w.heap.size
      have hzr := hbr.size
      by_cases hka : k < a.length
      · have hkb : k < b.length := by rw [← Hl.out]; exact hka
        obtain ⟨b1, o1, p1, n1, rfl, -, -, c0, hX⟩ := (ha5.below hbr fun _ _ h => h).seq hka
        obtain ⟨b2, o2, p2, n2, rfl, -, -, d0, hY⟩ := (hb5.below hbr fun _ _ h => h).seq hkb
        have hx := Lib.hid (show a[k] = b[k] → ∀ j, j < k + 1 → a[j]? = b[j]? from fun h => all_succ hno.out hka hkb h)
        have hn := Lib.hid (show a[k] ≠ b[k] → decide (a = b) = false from fun h => decide_eq_false fun e => by subst e; exact h rfl)
        have HX := Lib.hid hX
        have HY := Lib.hid hY
        clear hX hY
        obtain ⟨x, hxe⟩ : ∃ x, x = a[k] := ⟨_, rfl⟩
        obtain ⟨y, hye⟩ : ∃ y, y = b[k] := ⟨_, rfl⟩
        rw [← hxe] at c0 HX hx hn
        rw [← hye] at d0 HY hx hn
        clear hxe hye
        have hkl : (k : Int) < (a.length : Int) := by omega
        have hkm : (k : Int) < (b.length : Int) := by omega
        have hk0 : (0 : Int) ≤ (k : Int) := by omega
        go_wp2_with fail
        go_still_tail 8, (by kernel_rfl)
        go_wp2_with fail
        refine (SameT_spec (HX.out.at Seq.way) (HY.out.at Seq.way)).mono ?_
        rintro e w1 ⟨rfl, hq⟩
        have hq' : Drew w w1 := hdr.trans (Drew.trans (Drew.of wr 1) hq)
        clear hq
        by_cases he : x = y
        · have hx' := Lib.hid (hx.out he)
          have hd : decide (x = y) = true := by simp [he]
          rw [hd]
          go_wp2_with fail
          go_roundw
          case rel => exact ⟨k + 1, hka, by go_num, hx', hq'⟩
          case measure => simp [intOf]; omega
        · have hn' := Lib.hid (hn.out he)
          have hd : decide (x = y) = false := by simp [he]
          rw [hd]
          go_wp2_with fail
          go_ret
          exact ⟨ret_bool hn'.out.symm, hq'⟩
      · obtain rfl : k = a.length := by omega
        have he := Lib.hid (show decide (a = b) = true from decide_eq_true (all_eq hno.out Hl.out))
        go_wp2_with fail
        go_ret
        exact ⟨ret_bool he.out.symm, hdr⟩
  · have hd := Lib.hid (show decide (a = b) = false from decide_eq_false fun h => hl (by rw [h]))
    go_wp2_with fail
    go_ret
    exact ⟨ret_bool hd.out.symm, Drew.refl _⟩


end Go.Proofs.Ytceipnlpofebmaa
