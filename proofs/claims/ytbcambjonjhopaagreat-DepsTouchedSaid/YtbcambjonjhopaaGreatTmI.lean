/-
  R12: Has, Drop, less, Diff, Made.
-/
import Derived.Test.YtbcambjonjhopaaGreatTmH
namespace Go.Proofs.YtbcambjonjhopaaGreat
open Go Go.RowKit

/-! ### Has -/
set_option maxHeartbeats 1600000 in
set_option maxRecDepth 100000 in
theorem HasR_spec {S T : Nat → Prop} {w : World} {v u : Value} {l : List (List Cell)} {t : List Cell} (hl : Seq (seqE cellE) S w v l) (ht : Seq cellE T w u t) :
    Calls Tryz.prog 53 #[v, u] w (QuietV (.bool (decide (t ∈ l))) w) := by
  have Ht := Lib.hid ht
  obtain ⟨aa, ac, rfl, -, -, hal, -, h5⟩ := hl
  obtain ⟨ta, tc, rfl, -⟩ := ht
  go_enter Tryz.func53, Tryz.ntmps53
  go_wp2_with fail
  go_loopw [5] (fun i wr => ∃ k : Nat, k ≤ l.length ∧ i = .int .i64 k ∧ Hid (¬ t ∈ l.take k) ∧ Drew w wr) (fun i _ => l.length - (intOf i).toNat)
  case atStart => exact ⟨0, Nat.zero_le _, rfl, Lib.hid (by simp), Drew.refl _⟩
  case round =>
    obtain ⟨k, hk, rfl, hno, hdr⟩ := hrel
    have hbr := hdr.below w.heap.size
    by_cases hlt : k < l.length
    · obtain ⟨b1, o1, p1, n1, rfl, -, -, c0, hX⟩ := (h5.below hbr fun _ _ h => h).seq hlt
      have hy := Lib.hid (show l[k] = t → decide (t ∈ l) = true from fun h => decide_eq_true (h ▸ List.getElem_mem hlt))
      have hz := Lib.hid (show l[k] ≠ t → ¬ t ∈ l.take (k + 1) from fun h => by
        rw [List.take_succ_eq_append_getElem hlt, List.mem_append]
        simp only [List.mem_singleton, not_or]
        exact ⟨hno.out, fun e => h e.symm⟩)
      have HX := Lib.hid hX
      obtain ⟨x, hx⟩ : ∃ x, x = l[k] := ⟨_, rfl⟩
      rw [← hx] at c0 HX hy hz
      clear hx h5 hX
      have hkl : (k : Int) < (l.length : Int) := by omega
      have hk0 : (0 : Int) ≤ (k : Int) := by omega
      go_wp2_with fail
      refine (SameT_spec HX.out (Ht.out.at hbr)).mono ?_
      rintro e w1 ⟨rfl, hq⟩
      have hq' := hdr.trans hq
      by_cases he : x = t
      · have hy' := Lib.hid (hy.out he)
        have hd : decide (x = t) = true := decide_eq_true he
        rw [hd]
        clear hy hz he hd
        go_wp2_with fail
        go_ret
        exact ⟨ret_bool hy'.out.symm, hq'⟩
      · have hz' := Lib.hid (hz.out he)
        have hd : decide (x = t) = false := decide_eq_false he
        rw [hd]
        clear hy hz he hd
        go_wp2_with fail
        go_roundw
        case rel => exact ⟨k + 1, hlt, by go_num, hz', hq'⟩
        case measure => simp [intOf]; omega
    · obtain rfl : k = l.length := by omega
      have hd := Lib.hid (show decide (t ∈ l) = false from decide_eq_false (by have := hno.out; rwa [List.take_length] at this))
      go_wp2_with fail
      go_ret
      exact ⟨ret_bool hd.out.symm, hdr⟩

/-! ### less, Diff -/
def lessT (a b : List (List Cell)) : List (List Cell) := fltL (fun t => !decide (t ∈ b)) a


/-- Two rows, told together. -/
def Ret2 (P : Value → Value → World → Prop) (w : World) (e : Ending) (w' : World) : Prop := ∃ a b, e = .returned (.tuple #[a, b]) ∧ Below w.heap.size w w' ∧ P a b w'


/-! ### Drop -/
def dropT (t : List Cell) (l : List (List Cell)) : List (List Cell) := fltL (fun x => !decide (x = t)) l
def dropE (l : List (List Cell)) (t : List Cell) : Int := if factT t = true then (if t ∈ l then 0 else 3) else 120
def dropO (l : List (List Cell)) (t : List Cell) : List (List Cell) := if factT t = true ∧ t ∈ l then dropT t l else []
/-- A row and an error's number. -/
def RetE (P : Value → World → Prop) (n : Int) (w : World) (e : Ending) (w' : World) : Prop := ∃ o, e = .returned (.tuple #[o, .int .i64 n]) ∧ Below w.heap.size w w' ∧ P o w'


end Go.Proofs.YtbcambjonjhopaaGreat
