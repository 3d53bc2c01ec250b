/-
  R01: variables, ground terms, the order.
-/
import Derived.Test.YtaedgpcmkagpeaaGreatTmC
namespace Go.Proofs.YtaedgpcmkagpeaaGreat
open Go Go.RowKit

theorem infoInt : (Tryz.prog.info? 3).map (fun i => (i.zero, i.size, i.bytes)) = some (some (.int .i64 0), 1, 8) := by kernel_rfl

/-! ### In -/
theorem InT_spec {S : Nat → Prop} {w : World} {v : Value} {l : List Int} {n : Int} (hl : Seq intE S w v l) :
    Calls Tryz.prog 30 #[v, .int .i64 n] w (PureV (.bool (decide (n ∈ l))) w) := by
  obtain ⟨ao, cap, rfl, h1, h2, h3, -, h5⟩ := hl
  go_enter Tryz.func30, Tryz.ntmps30
  go_wp2_with fail
  go_loopw [5] (fun i wr => ∃ k : Nat, k ≤ l.length ∧ i = .int .i64 k ∧ Hid (¬ n ∈ l.take k) ∧ w = wr) (fun i _ => l.length - (intOf i).toNat)
  case atStart => exact ⟨0, Nat.zero_le _, rfl, Lib.hid (by simp), rfl⟩
  case round =>
    obtain ⟨k, hk, rfl, hno, rfl⟩ := hrel
    by_cases hlt : k < l.length
    · obtain ⟨b, off, rfl, -, -, c0, -⟩ := h5.int hlt
      have hy := Lib.hid (show l[k] = n → decide (n ∈ l) = true from fun h => decide_eq_true (h ▸ List.getElem_mem hlt))
      have hz := Lib.hid (show l[k] ≠ n → ¬ n ∈ l.take (k + 1) from fun h => by
        rw [List.take_succ_eq_append_getElem hlt, List.mem_append]
        simp only [List.mem_singleton, not_or]
        exact ⟨hno.out, fun e => h e.symm⟩)
      obtain ⟨x, hx⟩ : ∃ x, x = l[k] := ⟨_, rfl⟩
      rw [← hx] at c0 hy hz
      clear hx h5
      have hkl : (k : Int) < (l.length : Int) := by omega
      have hk0 : (0 : Int) ≤ (k : Int) := by omega
      by_cases he : x = n
      · have hy' := Lib.hid (hy.out he)
        have he' : (x == n) = true := by simp [he]
        clear hy hz he
        go_wp2_with fail
        go_ret
        exact ⟨ret_bool hy'.out.symm, rfl⟩
      · have hz' := Lib.hid (hz.out he)
        have he' : (x == n) = false := by simp [he]
        clear hy hz he
        go_wp2_with fail
        go_roundw
        case rel => exact ⟨k + 1, hlt, by go_num, hz', trivial⟩
        case measure => simp [intOf]; omega
    · obtain rfl : k = l.length := by omega
      have hd := Lib.hid (show decide (n ∈ l) = false from decide_eq_false (by have := hno.out; rwa [List.take_length] at this))
      go_wp2_with fail
      go_ret
      exact ⟨ret_bool hd.out.symm, rfl⟩

/-! ### The order -/
theorem cmpR_step {a b : List Cell} {k : Nat} (hk : k < a.length) (hk' : k < b.length) : cmpR (a.drop k) (b.drop k) = if cmpC a[k] b[k] ≠ 0 then cmpC a[k] b[k] else cmpR (a.drop (k + 1)) (b.drop (k + 1)) := by
  rw [List.drop_eq_getElem_cons hk, List.drop_eq_getElem_cons hk']; rfl
theorem cmpR_end {a b : List Cell} {k : Nat} (hk : ¬ (k < a.length ∧ k < b.length)) : cmpR (a.drop k) (b.drop k) = 0 := by
  by_cases h : k < a.length
  · rw [List.drop_eq_nil_of_le (show b.length ≤ k by omega)]
    cases a.drop k <;> rfl
  · rw [List.drop_eq_nil_of_le (show a.length ≤ k by omega)]; rfl
theorem cmpZ_val (a b : Int) : cmpZ a b = -1 ∨ cmpZ a b = 0 ∨ cmpZ a b = 1 := by unfold cmpZ; split <;> (try split) <;> simp
theorem cmpS_val (a b : ByteArray) : cmpS a b = -1 ∨ cmpS a b = 0 ∨ cmpS a b = 1 := by unfold cmpS; split <;> (try split) <;> simp
theorem cmpC_val (x y : Cell) : cmpC x y = -1 ∨ cmpC x y = 0 ∨ cmpC x y = 1 := by
  unfold cmpC
  split
  · exact cmpZ_val _ _
  · split
    · exact cmpZ_val _ _
    · exact cmpS_val _ _
theorem cmpC_m1 {x y : Cell} (h : x.kind < y.kind ∨ (x.kind = y.kind ∧ (x.n < y.n ∨ (x.n = y.n ∧ Op.bytesLess x.name.toList y.name.toList = true)))) : cmpC x y = -1 := by
  have h1 := cmpC_lt.2 h
  have h2 := cmpC_val x y
  omega
theorem cmpC_p1 {x y : Cell} (hne : x ≠ y) (h : ¬ (x.kind < y.kind ∨ (x.kind = y.kind ∧ (x.n < y.n ∨ (x.n = y.n ∧ Op.bytesLess x.name.toList y.name.toList = true))))) : cmpC x y = 1 := by
  have h1 : ¬ cmpC x y < 0 := fun e => h (cmpC_lt.1 e)
  have h2 := cmpC_val x y
  have h3 : ¬ cmpC x y = 0 := fun e => hne (cmpC_zero.1 e)
  omega

set_option maxHeartbeats 1600000 in
set_option maxRecDepth 100000 in
theorem CompareR_spec {S T : Nat → Prop} {w : World} {v u : Value} {a b : List Cell} (ha : Seq cellE S w v a) (hb : Seq cellE T w u b) :
    Calls Tryz.prog 58 #[v, u] w (RetV (.int .i64 (cmpR a b)) w) := by
  obtain ⟨aa, ac, rfl, -, -, hal, -, ha5⟩ := ha
  obtain ⟨ba, bc, rfl, -, -, hbl, -, hb5⟩ := hb
  go_enter Tryz.func58, Tryz.ntmps58
  go_wp2_with fail
  go_loopw [5] (fun i wr => ∃ k : Nat, k ≤ a.length ∧ k ≤ b.length ∧ i = .int .i64 k ∧ Hid (cmpR a b = cmpR (a.drop k) (b.drop k)) ∧ Below w.heap.size w wr) (fun i _ => a.length - (intOf i).toNat)
  case atStart => exact ⟨0, Nat.zero_le _, Nat.zero_le _, rfl, Lib.hid rfl, Below.refl _ _⟩
  case round =>
    obtain ⟨k, hk, hk', rfl, hno, hbr⟩ := hrel
    have hzr := hbr.size
    by_cases hka : k < a.length
    · by_cases hkb : k < b.length
      · obtain ⟨b1, o1, rfl, -, l1, c0, c1, c2, -⟩ := (ha5.below hbr fun _ _ h => h).cell hka
        obtain ⟨b2, o2, rfl, -, l2, d0, d1, d2, -⟩ := (hb5.below hbr fun _ _ h => h).cell hkb
        have hst := Lib.hid (cmpR_step hka hkb)
        clear ha5 hb5
        obtain ⟨x, hxe⟩ : ∃ x, x = a[k] := ⟨_, rfl⟩
        obtain ⟨y, hye⟩ : ∃ y, y = b[k] := ⟨_, rfl⟩
        rw [← hxe] at c0 c1 c2 hst
        rw [← hye] at d0 d1 d2 hst
        clear hxe hye
        have hkl : (k : Int) < (a.length : Int) := by omega
        have hkm : (k : Int) < (b.length : Int) := by omega
        have hk0 : (0 : Int) ≤ (k : Int) := by omega
        by_cases he : x = y
        · have hx' := Lib.hid (show cmpR a b = cmpR (a.drop (k + 1)) (b.drop (k + 1)) by rw [hno.out, hst.out, if_neg (by simp [cmpC_zero, he])])
          subst he
          clear hst hno
          go_wp2_with fail
          go_roundw
          case rel => exact ⟨k + 1, hka, hkb, by go_num, hx', (Seq.way : Below w.heap.size w _)⟩
          case measure => simp [intOf]; omega
        · have hz := Lib.hid (show cmpR a b = cmpC x y by rw [hno.out, hst.out, if_pos (by simp [cmpC_zero, he])])
          have hm := Lib.hid (cmpC_m1 (x := x) (y := y))
          have hp := Lib.hid (cmpC_p1 he)
          clear hst hno
          rcases cell_ne he with q1 | ⟨q1, q2⟩ | ⟨q1, q2, q3⟩
          · clear he
            have q1' : x.kind ≠ y.kind := by simpa using q1
            by_cases hlt : x.kind < y.kind
            · go_wp2_with fail
              go_ret
              exact ⟨ret_int (by rw [hz.out]; exact (hm.out (.inl hlt)).symm), (Seq.way : Below w.heap.size w _)⟩
            · go_wp2_with fail
              go_ret
              exact ⟨ret_int (by rw [hz.out]; exact (hp.out (by omega)).symm), (Seq.way : Below w.heap.size w _)⟩
          · have q1' : x.kind = y.kind := by simpa using q1
            clear he q1
            by_cases hlt : x.n < y.n
            · go_wp2_with fail
              go_ret
              exact ⟨ret_int (by rw [hz.out]; exact (hm.out (.inr ⟨q1', .inl hlt⟩)).symm), (Seq.way : Below w.heap.size w _)⟩
            · by_cases heq : x.n = y.n
              · have hnl : ¬ x.n < y.n := by omega
                have hkl2 : ¬ x.kind < y.kind := by omega
                cases hbl2 : Op.bytesLess x.name.toList y.name.toList
                · go_wp2_with fail
                  go_ret
                  exact ⟨ret_int (by rw [hz.out]; exact (hp.out (by simp [hbl2]; omega)).symm), (Seq.way : Below w.heap.size w _)⟩
                · go_wp2_with fail
                  go_ret
                  exact ⟨ret_int (by rw [hz.out]; exact (hm.out (.inr ⟨q1', .inr ⟨heq, hbl2⟩⟩)).symm), (Seq.way : Below w.heap.size w _)⟩
              · go_wp2_with fail
                go_ret
                exact ⟨ret_int (by rw [hz.out]; exact (hp.out (by omega)).symm), (Seq.way : Below w.heap.size w _)⟩
          · have q1' : x.kind = y.kind := by simpa using q1
            have q3' : x.n ≠ y.n := by simpa using q3
            clear he q1
            by_cases hlt : x.n < y.n
            · go_wp2_with fail
              go_ret
              exact ⟨ret_int (by rw [hz.out]; exact (hm.out (.inr ⟨q1', .inl hlt⟩)).symm), (Seq.way : Below w.heap.size w _)⟩
            · go_wp2_with fail
              go_ret
              exact ⟨ret_int (by rw [hz.out]; exact (hp.out (by omega)).symm), (Seq.way : Below w.heap.size w _)⟩
      · obtain rfl : k = b.length := by omega
        have hz := Lib.hid (show cmpR a b = 0 by rw [hno.out, cmpR_end (by omega)])
        go_wp2_with fail
        go_ret
        exact ⟨ret_int hz.out.symm, hbr⟩
    · obtain rfl : k = a.length := by omega
      have hz := Lib.hid (show cmpR a b = 0 by rw [hno.out, cmpR_end (by omega)])
      go_wp2_with fail
      go_ret
      exact ⟨ret_int hz.out.symm, hbr⟩
end Go.Proofs.YtaedgpcmkagpeaaGreat
