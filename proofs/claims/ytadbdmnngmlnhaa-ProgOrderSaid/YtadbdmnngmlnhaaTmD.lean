/-
  R01: variables, ground terms, the order.
-/
import Derived.Test.YtadbdmnngmlnhaaTmC
namespace Go.Proofs.Ytadbdmnngmlnhaa
open Go Go.RowKit

theorem infoInt : (Try.prog.info? 3).map (fun i => (i.zero, i.size, i.bytes)) = some (some (.int .i64 0), 1, 8) := by kernel_rfl

/-! ### In -/
theorem InT_spec {S : Nat → Prop} {w : World} {v : Value} {l : List Int} {n : Int} (hl : Seq intE S w v l) :
    Calls Try.prog 31 #[v, .int .i64 n] w (PureV (.bool (decide (n ∈ l))) w) := by
  obtain ⟨ao, cap, rfl, h1, h2, h3, -, h5⟩ := hl
  go_enter Try.func31, Try.ntmps31
  go_wp2_with fail
  go_loopw [5] (fun i wr => ∃ k : Nat, k ≤ l.length ∧ i = .int .i64 k ∧ Hid (¬ n ∈ l.take k) ∧ w = wr) (fun i _ => l.length - (intOf i).toNat)
  case atStart => exact ⟨0, Nat.zero_le _, rfl, Lib.hid (by simp), rfl⟩
  case round =>
    obtain ⟨k, hk, rfl, hno, rfl⟩ := hrel
    by_cases hlt : k < l.length
    · obtain ⟨b, off, rfl, -, -, c0, -⟩ := h5.int hlt
      have hy := Lib.hid (show l[k] = n → decide (n ∈ l) = true from fun h => decide_eq_true (h ▸ List.getElem_mem hlt))
      have hz := Lib.hid (show l[k] ≠ n → ¬ n ∈ l.take (k + 1) from fun h => by
        rw [List.take_succ_eq_append_getElem hlt, List.mem_append]
        simp only [List.mem_singleton, not_or]
        exact ⟨hno.out, fun e => h e.symm⟩)
      obtain ⟨x, hx⟩ : ∃ x, x = l[k] := ⟨_, rfl⟩
      rw [← hx] at c0 hy hz
      clear hx h5
      have hkl : (k : Int) < (l.length : Int) := by omega
      have hk0 : (0 : Int) ≤ (k : Int) := by omega
      by_cases he : x = n
      · have hy' := Lib.hid (hy.out he)
        have he' : (x == n) = true := by simp [he]
        clear hy hz he
        go_wp2_with fail
        go_ret
        exact ⟨ret_bool hy'.out.symm, rfl⟩
      · have hz' := Lib.hid (hz.out he)
        have he' : (x == n) = false := by simp [he]
        clear hy hz he
        go_wp2_with fail
        go_roundw
        case rel => exact ⟨k + 1, hlt, by go_num, hz', trivial⟩
        case measure => simp [intOf]; omega
    · obtain rfl : k = l.length := by omega
      have hd := Lib.hid (show decide (n ∈ l) = false from decide_eq_false (by have := hno.out; rwa [List.take_length] at this))
      go_wp2_with fail
      go_ret
      exact ⟨ret_bool hd.out.symm, rfl⟩

/-! ### The order -/
theorem cmpR_step {a b : List Cell} {k : Nat} (hk : k < a.length) (hk' : k < b.length) : cmpR (a.drop k) (b.drop k) = if cmpC a[k] b[k] ≠ 0 then cmpC a[k] b[k] else cmpR (a.drop (k + 1)) (b.drop (k + 1)) := by
  rw [List.drop_eq_getElem_cons hk, List.drop_eq_getElem_cons hk']; rfl
theorem cmpR_end {a b : List Cell} {k : Nat} (hk : ¬ (k < a.length ∧ k < b.length)) : cmpR (a.drop k) (b.drop k) = 0 := by
  by_cases h : k < a.length
  · rw [List.drop_eq_nil_of_le (show b.length ≤ k by omega)]
    cases a.drop k <;> rfl
  · rw [List.drop_eq_nil_of_le (show a.length ≤ k by omega)]; rfl
theorem cmpZ_val (a b : Int) : cmpZ a b = -1 ∨ cmpZ a b = 0 ∨ cmpZ a b = 1 := by unfold cmpZ; split <;> (try split) <;> simp
theorem cmpS_val (a b : ByteArray) : cmpS a b = -1 ∨ cmpS a b = 0 ∨ cmpS a b = 1 := by unfold cmpS; split <;> (try split) <;> simp
theorem cmpC_val (x y : Cell) : cmpC x y = -1 ∨ cmpC x y = 0 ∨ cmpC x y = 1 := by
  unfold cmpC
  split
  · exact cmpZ_val _ _
  · split
    · exact cmpZ_val _ _
    · exact cmpS_val _ _
theorem cmpC_m1 {x y : Cell} (h : x.kind < y.kind ∨ (x.kind = y.kind ∧ (x.n < y.n ∨ (x.n = y.n ∧ Op.bytesLess x.name.toList y.name.toList = true)))) : cmpC x y = -1 := by
  have h1 := cmpC_lt.2 h
  have h2 := cmpC_val x y
  omega
theorem cmpC_p1 {x y : Cell} (hne : x ≠ y) (h : ¬ (x.kind < y.kind ∨ (x.kind = y.kind ∧ (x.n < y.n ∨ (x.n = y.n ∧ Op.bytesLess x.name.toList y.name.toList = true))))) : cmpC x y = 1 := by
  have h1 : ¬ cmpC x y < 0 := fun e => h (cmpC_lt.1 e)
  have h2 := cmpC_val x y
  have h3 : ¬ cmpC x y = 0 := fun e => hne (cmpC_zero.1 e)
  omega


end Go.Proofs.Ytadbdmnngmlnhaa
