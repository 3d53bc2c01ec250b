/-
  Layer 13: Now of the document.
-/
import Derived.Test.YteefdmpaclnaiaaTnD
namespace Go.Proofs.Yteefdmpaclnaiaa
open Go Go.RowKit

set_option maxHeartbeats 1600000 in
set_option maxRecDepth 100000 in
theorem NowR_spec {S : Nat → Prop} {w : World} {v : Value} {b : Bas} (hb : BasV S w v b) (hrow : RowT b.facts) :
    Calls Try.prog 26 #[v] w (Ret (fun o w' => Seq (seqE cellE) (Fr S w) w' o (nowL b.facts b.todo)) w) := by
  obtain ⟨fa, fc, ta, tc, rfl, h1, h2, h3⟩ := hb.bnd
  have H2 := Lib.hid (h2.mono (T := Fr S w) (fun b h _ => .inl h.1) fun _ _ _ => rfl)
  obtain ⟨_, _, ee, -, -, hal, -, h5⟩ := h3
  simp only [Value.slice.injEq, true_and] at ee
  obtain ⟨rfl, rfl⟩ := ee
  have Hrow := Lib.hid hrow
  obtain ⟨l, hl⟩ : ∃ l, l = b.todo := ⟨_, rfl⟩
  obtain ⟨f0, hf0⟩ : ∃ f0, f0 = b.facts := ⟨_, rfl⟩
  rw [← hl] at hal h5 ⊢
  rw [← hf0] at H2 Hrow ⊢
  clear h2 hb hrow hl hf0
  obtain ⟨W, hW⟩ : ∃ W, W = w.alloc (.cells #[.slice fa f0.length fc, .int .i64 b.ver, .bool b.on, .slice ta l.length tc] 25) := ⟨_, rfl⟩
  have hbW := Lib.hid (show Below w.heap.size w W by rw [hW]; exact Seq.way)
  have R0 := Lib.hid (show Row 25 W w.heap.size [.slice fa f0.length fc, .int .i64 b.ver, .bool b.on, .slice ta l.length tc] by rw [hW]; exact Row.new _ [_, _, _, _] _ rfl)
  have hzW : w.heap.size + 1 ≤ W.heap.size := by rw [hW]; simp
  have HW := Lib.hid hW
  clear hW
  go_enter Try.func26, Try.ntmps26
  go_wp2_with fail
  rw [← HW.out]
  go_loopw [3, 4] (fun o i wr => ∃ k : Nat, k ≤ l.length ∧ i = .int .i64 k ∧ Seq (seqE cellE) (Fr S w) wr o (nowL f0 (l.take k)) ∧ Below W.heap.size W wr) (fun _ i _ => l.length - (intOf i).toNat)
  case atStart => exact ⟨0, Nat.zero_le _, rfl, H2.out.at hbW.out, Below.refl _ _⟩
  case round =>
    obtain ⟨k, hk, rfl, ho, hbr⟩ := hrel
    have hbw := below_step hbr hbW.out
    have hzr := hbr.size
    obtain ⟨c0, c1, c2, c3, -, -, -, -⟩ := (R0.out.below hbr (by omega)).four
    have Ho := Lib.hid ho
    obtain ⟨oa, oc, rfl⟩ := ho.shape
    by_cases hlt : k < l.length
    · obtain ⟨b1, o1, pa, pc, rfl, -, -, e0, e1, hX⟩ := (h5.below hbw fun _ h _ => h.2).chg hlt
      have hst := Lib.hid (show nowL f0 (l.take (k + 1)) = if doE (nowL f0 (l.take k)) l[k] = 0 then doO (nowL f0 (l.take k)) l[k] else nowL f0 (l.take k) by
        rw [List.take_succ_eq_append_getElem hlt, nowL_snoc])
      have Hr := Lib.hid (nowL_rowT (todo := l.take k) Hrow.out)
      obtain ⟨m, hm⟩ : ∃ m, m = nowL f0 (l.take k) := ⟨_, rfl⟩
      rw [← hm] at hst Ho Hr ⊢
      obtain ⟨c, hc⟩ : ∃ c, c = l[k] := ⟨_, rfl⟩
      rw [← hc] at hst e0 e1 hX
      have HX := Lib.hid (show ChgV (fun b => S b ∧ b < w.heap.size) wr (.agg #[.bool c.add, .slice pa c.t.length pc]) c from ⟨pa, pc, rfl, hX⟩)
      have hml := Hr.out.len
      clear hm hc hX h5 ho
      have hkl : (k : Int) < (l.length : Int) := by omega
      have hk0 : (0 : Int) ≤ (k : Int) := by omega
      go_wp2_with fail
      refine (doR_spec Ho.out HX.out (by omega)).mono ?_
      rintro e w1 ⟨v1, rfl, hb1, hs1⟩
      have hbr1 := below_step hb1 hbr
      have Hs1 := Lib.hid (hs1.mono (T := Fr S w) (fun b h _ => h.elim (fun h => h.elim id fun h => .inl h.1) fun h => .inr (by omega)) fun _ _ _ => rfl)
      obtain ⟨pa2, pc2, rfl⟩ := hs1.shape
      obtain ⟨e, he⟩ : ∃ e, e = doE m c := ⟨_, rfl⟩
      rw [← he] at hst ⊢
      have hb1r := hb1
      clear hs1 he
      by_cases hz : e = 0
      · have hst' := Lib.hid (hst.out.trans (if_pos hz))
        subst hz
        go_wp2_with fail
        go_roundw
        case rel => exact ⟨k + 1, hlt, by go_num, by rw [hst'.out]; exact Hs1.out, hbr1⟩
        case measure => simp [intOf]; omega
      · have hst' := Lib.hid (hst.out.trans (if_neg hz))
        have hz' : (e == 0) = false := by simpa using hz
        go_wp2_with fail
        go_roundw
        case rel => exact ⟨k + 1, hlt, by go_num, by rw [hst'.out]; exact Ho.out.at hb1r, hbr1⟩
        case measure => simp [intOf]; omega
    · obtain rfl : k = l.length := by omega
      rw [List.take_length] at Ho ⊢
      go_wp2_with fail
      go_ret
      exact ⟨_, rfl, hbw, Ho.out⟩
end Go.Proofs.Yteefdmpaclnaiaa
