/-
  Layer 16, the program: slices.Grow and slices.Concat at ints.
-/
import Derived.Test.YtaedgpcmkagpeaaGreatGsX
import Derived.Lib.AppendZeros
import Derived.Lib.AppendZerosOnto
namespace Go.Proofs.YtaedgpcmkagpeaaGreat
open Go Go.RowKit

theorem infoI8 : ∃ i0, Tryz.prog.info? 3 = some i0 ∧ i0.zero = some (.int .i64 0) ∧ i0.size = 1 ∧ i0.bytes = 8 := by
  obtain ⟨i0, h1, h2⟩ := Option.map_eq_some_iff.1 infoInt
  simp only [Prod.mk.injEq] at h2
  exact ⟨i0, h1, h2.1, h2.2.1, h2.2.2⟩
set_option maxHeartbeats 3200000 in
set_option maxRecDepth 100000 in
theorem growI_spec {w : World} {b0 n : Nat} (hn : n ≤ 1000000) (hb0 : b0 ≤ w.heap.size) :
    Calls Tryz.prog 97 #[.slice none 0 0, .int .i64 (n : Int)] w (fun e w' => ∃ v, e = .returned v ∧ Below w.heap.size w w' ∧ Own intE (fun _ => False) b0 3 w' v []) := by
  obtain ⟨i0, hi, hz, hs, hb⟩ := infoI8
  have h1 : ¬ ((n : Int) < 0) := by omega
  have h2 : wrap64 ((n : Int) - 0) = (n : Int) := by unfold wrap64; omega
  by_cases h0 : n = 0
  · subst h0
    clear h1 h2
    go_enter Tryz.func97, Tryz.ntmps97
    go_wp2_with fail
    go_ret
    exact ⟨_, rfl, Below.refl _ _, Own.nil _ _ _ _ _⟩
  · have h4 : (n : Int) > 0 := by omega
    have happ := Lib.run_append_nil_zeros (P := Tryz.prog) w 36 3 36 3 i0 (.int .i64 0) .i64 .i64 Tryz.underlying36 Tryz.underlying3 hi hz n (by omega) (by omega) (by omega) (by rw [hb]; omega)
    have hge : n ≤ grownCap w n 0 3 := grownCap_ge w _ _ _
    have hle := grownCap_le_maxLen w n 0 3 (by unfold maxLen; omega)
    obtain ⟨G, hG⟩ : ∃ G, G = grownCap w n 0 3 := ⟨_, rfl⟩
    rw [← hG] at happ hge hle
    have hG63 : G ≤ 9223372036854775807 := by unfold maxLen at hle; omega
    have hO := Lib.hid (show Own intE (fun _ => False) b0 3 (w.drew.alloc (.cells (Builtin.zeroCells (Value.int .i64 0).cells n ++ Builtin.zeroCells (Value.int .i64 0).cells (G - n)) 3)) (.slice (some ⟨w.heap.size, 0, none⟩) 0 G) [] from
      FlatE.own (cur := (Builtin.zeroCells (Value.int .i64 0).cells n ++ Builtin.zeroCells (Value.int .i64 0).cells (G - n)).toList) (by
        have := Row.new w.drew (Builtin.zeroCells (Value.int .i64 0).cells n ++ Builtin.zeroCells (Value.int .i64 0).cells (G - n)).toList 3 (B := w.heap.size) rfl
        rwa [Array.toArray_toList] at this) rfl (by simpa using FlatE.nil) hb0 (by simp [Builtin.zeroCells, Value.cells, intE]; omega) (by omega) hle)
    clear hG hi hz hs hb h0
    go_enter Tryz.func97, Tryz.ntmps97
    go_wp2_with (at_builtin; refine Lib.wpList_append_run _ rfl _ _ _ _ rfl _ _ rfl rfl _ _ happ ?_)
    go_ret
    exact ⟨_, rfl, Seq.way, hO.out⟩

theorem sum_take {l : List (List Int)} {k : Nat} (hk : k < l.length) : ((l.take (k + 1)).flatten).length = ((l.take k).flatten).length + l[k].length := by
  rw [List.take_succ_eq_append_getElem hk, List.flatten_append, List.length_append, List.flatten_cons, List.flatten_nil, List.append_nil]
theorem flat_take {l : List (List Int)} {k : Nat} (hk : k < l.length) : (l.take (k + 1)).flatten = (l.take k).flatten ++ l[k] := by
  rw [List.take_succ_eq_append_getElem hk, List.flatten_append, List.flatten_cons, List.flatten_nil, List.append_nil]
theorem flat_le {l : List (List Int)} (k : Nat) : ((l.take k).flatten).length ≤ l.flatten.length := by
  conv => rhs; rw [← List.take_append_drop k l, List.flatten_append, List.length_append]
  omega
set_option maxHeartbeats 3200000 in
set_option maxRecDepth 100000 in
theorem concatI_spec {S : Nat → Prop} {w : World} {v : Value} {l : List (List Int)} (hl : Seq (seqE intE) S w v l) (hn : l.flatten.length ≤ 1000000) (hlen : l.length ≤ 1000000) :
    Calls Tryz.prog 63 #[v] w (Ret (fun r w' => Seq intE (fun b => w.heap.size ≤ b) w' r l.flatten) w) := by
  have HL := Lib.hid hl.bnd
  have Hn := Lib.hid hn
  obtain ⟨la, lc, rfl⟩ := hl.shape
  clear hl hn
  go_enter Tryz.func63, Tryz.ntmps63
  go_wp2_with fail
  go_loopw [3, 11] (fun o i wr => ∃ k : Nat, k ≤ l.length ∧ i = .int .i64 k ∧ o = .int .i64 ((((l.take k).flatten).length : Nat) : Int) ∧ Hid (Below w.heap.size w wr)) (fun _ i _ => l.length - (intOf i).toNat)
  case atStart => exact ⟨0, Nat.zero_le _, rfl, rfl, Lib.hid (Below.refl _ _)⟩
  case round =>
    obtain ⟨k, hk, rfl, rfl, hbr⟩ := hrel
    have hzr := hbr.out.size
    by_cases hlt : k < l.length
    · obtain ⟨_, _, ee, -, -, -, -, x5⟩ := (HL.out.at hbr.out)
      simp only [Value.slice.injEq, true_and] at ee
      obtain ⟨rfl, rfl⟩ := ee
      obtain ⟨b, off, p1, n1, rfl, -, hb, hc, hX⟩ := x5.seq hlt
      have hst := Lib.hid (sum_take hlt)
      have hle := flat_le (l := l) (k + 1)
      have hnn := Hn.out
      rw [hst.out] at hle
      obtain ⟨M, hM⟩ : ∃ M, M = ((l.take k).flatten).length := ⟨_, rfl⟩
      obtain ⟨x, hx⟩ : ∃ x, x = l[k].length := ⟨_, rfl⟩
      rw [← hM, ← hx] at hst hle
      rw [← hx] at hc
      rw [← hM]
      have hMx : M + x ≤ 1000000 := by omega
      have hwr : wrap64 ((M : Int) + (x : Int)) = (M : Int) + (x : Int) := by unfold wrap64; omega
      have hge : ¬ ((M : Int) + (x : Int) < 0) := Int.not_lt.2 (Int.add_nonneg (Int.natCast_nonneg _) (Int.natCast_nonneg _))
      have hkl : (k : Int) < (l.length : Int) := by omega
      have hk0 : (0 : Int) ≤ (k : Int) := by omega
      clear hX x5 hx hM hnn hle
      go_wp2_with fail
      go_roundw
      case rel => exact ⟨k + 1, hlt, by go_num, by rw [hst.out]; push_cast; rfl, Lib.hid (below_step Seq.way hbr.out)⟩
      case measure => simp [intOf]; omega
    · obtain rfl : k = l.length := by omega
      have hkl : ¬ (l.length : Int) < (l.length : Int) := by omega
      obtain ⟨M, hM⟩ : ∃ M, M = ((l.take l.length).flatten).length := ⟨_, rfl⟩
      have hMn : M ≤ 1000000 := by rw [hM, List.take_length]; exact Hn.out
      rw [← hM]
      clear hM hk
      go_wp2_with fail
      refine (growI_spec hMn hzr).mono ?_
      rintro e w1 ⟨v1, rfl, hb1, ho1⟩
      have B1 := Lib.hid (below_step hb1 hbr.out)
      have O1 := Lib.hid ho1
      clear hb1 ho1
      go_wp2_with fail
      go_loopw [6, 27] (fun o i wz => ∃ k : Nat, k ≤ l.length ∧ i = .int .i64 k ∧ Hid (Own intE (fun _ => False) w.heap.size 3 wz o (l.take k).flatten) ∧ Hid (Below w.heap.size w wz)) (fun _ i _ => l.length - (intOf i).toNat)
      case atStart => exact ⟨0, Nat.zero_le _, rfl, Lib.hid (by simpa using O1.out), B1⟩
      case round =>
        obtain ⟨k, hk, rfl, hO, hbz⟩ := hrel
        have hzz := hbz.out.size
        by_cases hlt : k < l.length
        · obtain ⟨_, _, ee, -, -, -, -, x5⟩ := (HL.out.at hbz.out)
          simp only [Value.slice.injEq, true_and] at ee
          obtain ⟨rfl, rfl⟩ := ee
          obtain ⟨b, off, p1, n1, rfl, -, hb, hc, hX⟩ := x5.seq hlt
          have HX := Lib.hid hX
          have hst := Lib.hid (flat_take hlt)
          have hsm := sum_take hlt
          have hle := flat_le (l := l) (k + 1)
          have hnn := Hn.out
          obtain ⟨M, hM⟩ : ∃ M, M = (l.take k).flatten := ⟨_, rfl⟩
          obtain ⟨x, hx⟩ : ∃ x, x = l[k] := ⟨_, rfl⟩
          obtain ⟨Z, hZ⟩ : ∃ Z, Z = (l.take (k + 1)).flatten := ⟨_, rfl⟩
          rw [← hM, ← hx] at hst
          rw [← hM] at hO
          rw [← hx] at hc HX
          rw [← hZ] at hle hst
          have hZl : Z.length ≤ 1000000 := by omega
          have HZ := Lib.hid hZ
          have hkl : (k : Int) < (l.length : Int) := by omega
          have hk0 : (0 : Int) ≤ (k : Int) := by omega
          clear hX x5 hx hM hnn hle hsm hZ
          go_wp2_with (at_builtin; refine wpList_appL (E := intE) (S := fun b => b < w.heap.size) (base := w.heap.size) (wm := wr) (zs := Z) rfl _ _ 36 rfl Tryz.underlying36 infoInt rfl rfl (own_intS hO.out) (Below.refl _ _) rfl (HX.out) (fun b h _ => ⟨h.2, .inl h.2⟩) hst.out (by omega) (by omega) hzz ?_)
          intro ao5 cap5 w5 hown5 hk5
          have H5 := Lib.hid hown5
          have B5 := Lib.hid (hbz.out.trans (hk5.below))
          clear hown5 hk5
          go_wp2_with fail
          go_roundw
          case rel => exact ⟨k + 1, hlt, by go_num, Lib.hid (by rw [← HZ.out]; exact own_intS H5.out), B5⟩
          case measure => simp [intOf]; omega
        · obtain rfl : k = l.length := by omega
          have hkl : ¬ (l.length : Int) < (l.length : Int) := by omega
          have hO2 := Lib.hid (show Own intE _ _ _ wr _ l.flatten by have := hO.out; rwa [List.take_length] at this)
          have hnn := Hn.out
          obtain ⟨F, hF⟩ : ∃ F, F = l.flatten := ⟨_, rfl⟩
          rw [← hF] at hO2 hnn
          have HF := Lib.hid hF
          obtain ⟨oa, oc, rfl, -⟩ := hO2.out.shape
          clear hO hF
          go_wp2_with fail
          go_ret
          exact ⟨_, rfl, hbz.out, by rw [← HF.out]; exact hO2.out.seq (by omega) fun b _ h => h.elim False.elim id⟩
end Go.Proofs.YtaedgpcmkagpeaaGreat
