/-
  R12: Same, Find.
-/
import Derived.Test.YtceipnlpofebmaaGreatMtM
import Derived.Test.YtceipnlpofebmaaGreatMtP
namespace Go.Proofs.YtceipnlpofebmaaGreat
open Go Go.RowKit

set_option maxHeartbeats 1600000 in
set_option maxRecDepth 100000 in
theorem SameR12_spec {S T : Nat → Prop} {w : World} {v u : Value} {a b : List (List Cell)} (ha : Seq (seqE cellE) S w v a) (hb : Seq (seqE cellE) T w u b) :
    Calls Tryz.prog 23 #[v, u] w (QuietV (.bool (decide (a = b))) w) := by
  obtain ⟨aa, ac, rfl, -, -, hal, -, ha5⟩ := ha
  obtain ⟨ba, bc, rfl, -, -, hbl, -, hb5⟩ := hb
  go_enter Tryz.func23, Tryz.ntmps23
  by_cases hl : a.length = b.length
  · have hl' : ((a.length : Int) != (b.length : Int)) = false := by simp [hl]
    have Hl := Lib.hid hl
    clear hl
    go_wp2_with fail
    go_loopw [5] (fun i wr => ∃ k : Nat, k ≤ a.length ∧ i = .int .i64 k ∧ Hid (∀ j, j < k → a[j]? = b[j]?) ∧ Drew w wr) (fun i _ => a.length - (intOf i).toNat)
    case atStart => exact ⟨0, Nat.zero_le _, rfl, Lib.hid (by simp), Drew.refl _⟩
    case round =>
      obtain ⟨k, hk, rfl, hno, hdr⟩ := hrel
      have hbr := hdr.below w.heap.size
      have hzr := hbr.size
      by_cases hka : k < a.length
      · have hkb : k < b.length := by rw [← Hl.out]; exact hka
        obtain ⟨b1, o1, p1, n1, rfl, -, -, c0, hX⟩ := (ha5.below hbr fun _ _ h => h).seq hka
        obtain ⟨b2, o2, p2, n2, rfl, -, -, d0, hY⟩ := (hb5.below hbr fun _ _ h => h).seq hkb
        have hx := Lib.hid (show a[k] = b[k] → ∀ j, j < k + 1 → a[j]? = b[j]? from fun h => all_succ hno.out hka hkb h)
        have hn := Lib.hid (show a[k] ≠ b[k] → decide (a = b) = false from fun h => decide_eq_false fun e => by subst e; exact h rfl)
        have HX := Lib.hid hX
        have HY := Lib.hid hY
        clear hX hY
        obtain ⟨x, hxe⟩ : ∃ x, x = a[k] := ⟨_, rfl⟩
        obtain ⟨y, hye⟩ : ∃ y, y = b[k] := ⟨_, rfl⟩
        rw [← hxe] at c0 HX hx hn
        rw [← hye] at d0 HY hx hn
        clear hxe hye
        have hkl : (k : Int) < (a.length : Int) := by omega
        have hkm : (k : Int) < (b.length : Int) := by omega
        have hk0 : (0 : Int) ≤ (k : Int) := by omega
        go_wp2_with fail
        go_still_tail 8, (by kernel_rfl)
        go_wp2_with fail
        refine (SameT_spec (HX.out.at Seq.way) (HY.out.at Seq.way)).mono ?_
        rintro e w1 ⟨rfl, hq⟩
        have hq' : Drew w w1 := hdr.trans (Drew.trans (Drew.of wr 1) hq)
        clear hq
        by_cases he : x = y
        · have hx' := Lib.hid (hx.out he)
          have hd : decide (x = y) = true := by simp [he]
          rw [hd]
          go_wp2_with fail
          go_roundw
          case rel => exact ⟨k + 1, hka, by go_num, hx', hq'⟩
          case measure => simp [intOf]; omega
        · have hn' := Lib.hid (hn.out he)
          have hd : decide (x = y) = false := by simp [he]
          rw [hd]
          go_wp2_with fail
          go_ret
          exact ⟨ret_bool hn'.out.symm, hq'⟩
      · obtain rfl : k = a.length := by omega
        have he := Lib.hid (show decide (a = b) = true from decide_eq_true (all_eq hno.out Hl.out))
        go_wp2_with fail
        go_ret
        exact ⟨ret_bool he.out.symm, hdr⟩
  · have hd := Lib.hid (show decide (a = b) = false from decide_eq_false fun h => hl (by rw [h]))
    go_wp2_with fail
    go_ret
    exact ⟨ret_bool hd.out.symm, Drew.refl _⟩

set_option maxHeartbeats 1600000 in
set_option maxRecDepth 100000 in
theorem FindR_spec {S T : Nat → Prop} {w : World} {v u : Value} {a : List (List Cell)} {b : List Cell} (ha : Seq (seqE cellE) S w v a) (hb : Seq cellE T w u b) (hbl : b.length ≤ 1000) (hr : ∀ x ∈ a, RightT x) (hlen : a.length ≤ 1000000000) :
    Calls Tryz.prog 27 #[v, u] w (Ret (fun r w' => Seq (seqE cellE) (Fr S w) w' r (findT b a)) w) := by
  have Hb := Lib.hid hb
  have Ha := Lib.hid ha.bnd
  obtain ⟨aa, ac, rfl, -⟩ := ha
  obtain ⟨ba, bc, rfl, -⟩ := hb
  obtain ⟨_, _, ee, -, -, hal, -, h5⟩ := Ha.out
  simp only [Value.slice.injEq, true_and] at ee
  obtain ⟨rfl, rfl⟩ := ee
  go_enter Tryz.func27, Tryz.ntmps27
  go_wp2_with fail
  go_loopw [5, 6] (fun o i wr => ∃ k : Nat, k ≤ a.length ∧ i = .int .i64 k ∧ Own (seqE cellE) (fun b => S b ∧ b < w.heap.size) w.heap.size 23 wr o (findT b (a.take k)) ∧ Below w.heap.size w wr) (fun _ i _ => a.length - (intOf i).toNat)
  case atStart => exact ⟨0, Nat.zero_le _, rfl, Own.lit0 rfl (Nat.le_refl _) rfl, Seq.way⟩
  case round =>
    obtain ⟨k, hk, rfl, hown, hbr⟩ := hrel
    have hzr := hbr.size
    have hln := fltL_len (matchB b) (a.take k)
    rw [List.length_take] at hln
    by_cases hlt : k < a.length
    · obtain ⟨b1, o1, p1, n1, rfl, -, l1, c0, hX⟩ := (h5.below hbr fun _ h _ => h.2).seq hlt
      have hy := Lib.hid (show matchB b a[k] = false → findT b (a.take (k + 1)) = findT b (a.take k) from fun h => fltL_no hlt h)
      have hz := Lib.hid (show matchB b a[k] = true → findT b (a.take (k + 1)) = findT b (a.take k) ++ [a[k]] from fun h => fltL_yes hlt h)
      have HX := Lib.hid hX
      have Hown := Lib.hid hown
      have hxr := Lib.hid (hr _ (List.getElem_mem hlt))
      obtain ⟨x, hx⟩ : ∃ x, x = a[k] := ⟨_, rfl⟩
      rw [← hx] at c0 HX hy hz hxr
      clear hx h5 hX hown
      have hkl : (k : Int) < (a.length : Int) := by omega
      have hk0 : (0 : Int) ≤ (k : Int) := by omega
      go_wp2_with fail
      refine (MatchR_spec (Hb.out.at hbr) HX.out hbl hxr.out).mono ?_
      rintro e w1 ⟨v1, rfl, hq1⟩
      have hbr1 := below_step hq1 hbr
      have e0 : w1.cell? ⟨b1, o1 + k, none⟩ = _ := (hq1.cell (p := ⟨b1, o1 + k, none⟩) l1).trans c0
      clear c0
      cases he : matchB b x
      · have hy' := Lib.hid (hy.out he)
        clear hy hz he
        go_wp2_with fail
        go_roundw
        case rel => exact ⟨k + 1, hlt, by go_num, by rw [hy'.out]; exact Hown.out.move hq1, hbr1⟩
        case measure => simp [intOf]; omega
      · have hz' := Lib.hid (hz.out he)
        have Hown1 := Lib.hid (Hown.out.move hq1)
        have l1' : b1 < w1.heap.size := Nat.lt_of_lt_of_le l1 hq1.size
        have hln2 : (findT b (a.take k)).length ≤ 1000000000 := by have : (findT b (a.take k)).length = (fltL (matchB b) (a.take k)).length := rfl; omega
        clear hy hz he
        go_wp2_with (at_builtin; refine wpList_app_seq (E := cellE) (S := fun b => S b ∧ b < w.heap.size) (Sy := fun b => S b ∧ b < w.heap.size) (base := w.heap.size) (wm := w1) (vy := .slice p1 x.length n1) (y := x) rfl (.tmp 26) (.tmp 31) 22 rfl Tryz.underlying22 infoSeq rfl Hown1.out rfl Seq.way ((HX.out.at hq1).at Seq.way) (fun b h _ => ⟨h, .inl h.2⟩) (by go_simp) (by omega) hbr1.size ?_)
        intro ao2 cap2 w2 hown2 hk2
        have H2 := Lib.hid hown2
        have K2 := Lib.hid (hbr1.trans (Below.trans (Below.mono (Seq.way : Below w1.heap.size w1 _) hbr1.size) hk2.below))
        clear hown2 hk2
        go_wp2_with fail
        go_roundw
        case rel => exact ⟨k + 1, hlt, by go_num, by rw [hz'.out]; simpa using H2.out, K2.out⟩
        case measure => simp [intOf]; omega
    · obtain rfl : k = a.length := by omega
      rw [List.take_length] at hown hln
      have Hown := Lib.hid hown
      clear hown
      go_wp2_with fail
      go_ret
      exact ⟨_, rfl, hbr, Hown.out.seq (by have : (findT b a).length = (fltL (matchB b) a).length := rfl; omega) fun b _ hb => hb.imp (·.1) id⟩

end Go.Proofs.YtceipnlpofebmaaGreat
