/-
  Layers 01, 07, 16's reference at the atoms that the laws make: is an atom right, ground, in order.
-/
import Derived.Test.YtdbennmbbmoflaaPrR
namespace Go.Proofs.Ytdbennmbbmoflaa
open Go Go.RowKit

theorem name_a {w : World} : Calls Try.prog 82 #[.string ⟨#[97]⟩] w (PureV (.bool true) w) := by
  go_enter Try.func82, Try.ntmps82
  go_wp2_with fail
  go_loop [3] (fun i => ∃ k : Nat, k ≤ 1 ∧ i = .int .i64 k) (fun i => 1 - (intOf i).toNat)
  case atStart => exact ⟨0, by omega, rfl⟩
  case round =>
    obtain ⟨k, hk, rfl⟩ := hrel
    rcases (show k = 0 ∨ k = 1 by omega) with rfl | rfl
    · go_wp2_with fail
      go_round
      case rel => exact ⟨1, by omega, rfl⟩
      case measure => simp [intOf]
    · go_wp2_with fail
      go_ret
      exact ⟨rfl, rfl⟩

theorem cell_f {w : World} : Calls Try.prog 81 #[.agg #[.int .i64 3, .string ⟨#[97]⟩, .int .i64 1]] w (RetV (.bool true) w) := by
  go_enter Try.func81, Try.ntmps81
  go_wp2_with fail
  refine name_a.mono ?_
  rintro e w1 ⟨rfl, rfl⟩
  go_wp2_with fail
  go_ret
  exact ⟨rfl, Seq.way⟩
theorem cell_i {w : World} {i : Nat} (hi : i ≤ 1000) : Calls Try.prog 81 #[.agg #[.int .i64 2, .string ⟨#[]⟩, .int .i64 i]] w (RetV (.bool true) w) := by
  have h1 : (0 : Int) ≤ (i : Int) := by omega
  have h2 : (-2147483647 : Int) ≤ (i : Int) := by omega
  have h3 : (i : Int) ≤ 2147483647 := by omega
  go_enter Try.func81, Try.ntmps81
  go_wp2_with fail
  go_ret
  exact ⟨rfl, Seq.way⟩

/-- The two cells of an atom. -/
theorem atom_cells {S : Nat → Prop} {w : World} {v : Value} {i : Nat} (h : Seq cellE S w v (atomA i)) : ∃ b off c, v = .slice (some ⟨b, off, none⟩) 2 c ∧ b < w.heap.size ∧
    w.cell? ⟨b, off, none⟩ = some (.int .i64 3) ∧ w.cell? ⟨b, off + 1, none⟩ = some (.string ⟨#[97]⟩) ∧ w.cell? ⟨b, off + 2, none⟩ = some (.int .i64 1) ∧
    w.cell? ⟨b, off + 3, none⟩ = some (.int .i64 2) ∧ w.cell? ⟨b, off + 3 + 1, none⟩ = some (.string ⟨#[]⟩) ∧ w.cell? ⟨b, off + 3 + 2, none⟩ = some (.int .i64 i) := by
  obtain ⟨ao, c, rfl, -, -, -, -, hs⟩ := h
  obtain ⟨b, off, rfl, -, hb, h0, h1, h2, -⟩ := hs.cell (k := 0) (by simp [atomA])
  obtain ⟨b', off', e, -, -, h3, h4, h5, -⟩ := hs.cell (k := 1) (by simp [atomA])
  simp only [Option.some.injEq, Addr.mk.injEq, and_true] at e
  obtain ⟨rfl, rfl⟩ := e
  simp only [Nat.zero_mul, Nat.add_zero, Nat.one_mul] at h0 h1 h2 h3 h4 h5
  exact ⟨b, off, c, rfl, hb, h0, h1, h2, h3, h4, h5⟩
theorem End_a {S : Nat → Prop} {w : World} {v : Value} {i : Nat} (h : Seq cellE S w v (atomA i)) (hi : i ≤ 1000) : Calls Try.prog 77 #[v, .int .i64 0] w (RetV (.int .i64 2) w) := by
  obtain ⟨b, off, c, rfl, hb, h0, h1, h2, h3, h4, h5⟩ := atom_cells h
  clear h
  go_enter Try.func77, Try.ntmps77
  go_wp2_with fail
  go_loopw [5, 6] (fun o j wr => ∃ k : Nat, k ≤ 1 ∧ j = .int .i64 k ∧ o = .int .i64 1 ∧ Below w.heap.size w wr) (fun _ j _ => 2 - (intOf j).toNat)
  case atStart => exact ⟨0, by omega, rfl, rfl, Below.refl _ _⟩
  case round =>
    obtain ⟨k, hk, rfl, rfl, hbel⟩ := hrel
    have g0 := (hbel.cell (p := ⟨b, off, none⟩) hb).trans h0
    have g1 := (hbel.cell (p := ⟨b, off + 1, none⟩) hb).trans h1
    have g2 := (hbel.cell (p := ⟨b, off + 2, none⟩) hb).trans h2
    have g3 := (hbel.cell (p := ⟨b, off + 3, none⟩) hb).trans h3
    have g4 := (hbel.cell (p := ⟨b, off + 3 + 1, none⟩) hb).trans h4
    have g5 := (hbel.cell (p := ⟨b, off + 3 + 2, none⟩) hb).trans h5
    have hbr : b < wr.heap.size := Nat.lt_of_lt_of_le hb hbel.size
    rcases (show k = 0 ∨ k = 1 by omega) with rfl | rfl
    · go_wp2_with fail
      refine cell_f.mono ?_
      rintro e w1 ⟨rfl, hb1⟩
      have k0 := (hb1.cell (p := ⟨b, off, none⟩) hbr).trans g0
      have k2 := (hb1.cell (p := ⟨b, off + 2, none⟩) hbr).trans g2
      clear g0 g1 g2 g3 g4 g5
      go_wp2_with fail
      go_roundw
      case rel => exact ⟨1, by omega, rfl, rfl, hbel.trans (hb1.mono hbel.size)⟩
      case measure => simp [intOf]
    · go_wp2_with fail
      refine (cell_i hi).mono ?_
      rintro e w1 ⟨rfl, hb1⟩
      have k3 := (hb1.cell (p := ⟨b, off + 3, none⟩) hbr).trans g3
      clear g0 g1 g2 g3 g4 g5
      go_wp2_with fail
      go_ret
      exact ⟨rfl, hbel.trans (hb1.mono hbel.size)⟩
theorem Right_a {S : Nat → Prop} {w : World} {v : Value} {i : Nat} (h : Seq cellE S w v (atomA i)) (hi : i ≤ 1000) : Calls Try.prog 70 #[v] w (RetV (.bool true) w) := by
  have H := Lib.hid h
  obtain ⟨b, off, c, rfl, -⟩ := atom_cells h
  clear h
  go_enter Try.func70, Try.ntmps70
  go_wp2_with fail
  refine (End_a H.out hi).mono ?_
  rintro e w1 ⟨rfl, hb1⟩
  go_wp2_with fail
  go_ret
  exact ⟨rfl, hb1⟩
theorem Atom_a {S : Nat → Prop} {w : World} {v : Value} {i : Nat} (h : Seq cellE S w v (atomA i)) (hi : i ≤ 1000) : Calls Try.prog 48 #[v] w (RetV (.bool true) w) := by
  have H := Lib.hid h
  obtain ⟨b, off, c, rfl, hb, h0, -⟩ := atom_cells h
  clear h
  go_enter Try.func48, Try.ntmps48
  go_wp2_with fail
  refine (Right_a H.out hi).mono ?_
  rintro e w1 ⟨rfl, hb1⟩
  have k0 := (hb1.cell (p := ⟨b, off, none⟩) hb).trans h0
  clear h0
  go_wp2_with fail
  go_ret
  exact ⟨rfl, hb1⟩
theorem Vars_a {S : Nat → Prop} {w : World} {v : Value} {i : Nat} (h : Seq cellE S w v (atomA i)) : Calls Try.prog 71 #[v] w (Ret (fun o _ => ∃ a c, o = .slice a 0 c) w) := by
  obtain ⟨b, off, c, rfl, hb, h0, -, -, h3, -, -⟩ := atom_cells h
  clear h
  go_enter Try.func71, Try.ntmps71
  go_wp2_with fail
  go_loopw [3, 4] (fun o j wr => ∃ (k : Nat) (a : Option Addr) (c : Nat), k ≤ 2 ∧ j = .int .i64 k ∧ o = .slice a 0 c ∧ Below w.heap.size w wr) (fun _ j _ => 2 - (intOf j).toNat)
  case atStart => exact ⟨0, _, _, by omega, rfl, rfl, Seq.way⟩
  case round =>
    obtain ⟨k, a, c, hk, rfl, rfl, hbel⟩ := hrel
    have g0 := (hbel.cell (p := ⟨b, off, none⟩) hb).trans h0
    have g3 := (hbel.cell (p := ⟨b, off + 3, none⟩) hb).trans h3
    clear h0 h3
    rcases (show k = 0 ∨ k = 1 ∨ k = 2 by omega) with rfl | rfl | rfl
    · go_wp2_with fail
      go_roundw
      case rel => exact ⟨1, _, _, by omega, rfl, rfl, hbel⟩
      case measure => simp [intOf]
    · go_wp2_with fail
      go_roundw
      case rel => exact ⟨2, _, _, by omega, rfl, rfl, hbel⟩
      case measure => simp [intOf]
    · go_wp2_with fail
      go_ret
      exact ⟨_, rfl, hbel, _, _, rfl⟩
theorem Ground_a {S : Nat → Prop} {w : World} {v : Value} {i : Nat} (h : Seq cellE S w v (atomA i)) : Calls Try.prog 49 #[v] w (RetV (.bool true) w) := by
  have H := Lib.hid h
  obtain ⟨b, off, c, rfl, -⟩ := atom_cells h
  clear h
  go_enter Try.func49, Try.ntmps49
  go_wp2_with fail
  refine (Vars_a H.out).mono ?_
  rintro e w1 ⟨_, rfl, hb1, a, c, rfl⟩
  go_wp2_with fail
  go_ret
  exact ⟨rfl, hb1⟩
end Go.Proofs.Ytdbennmbbmoflaa
