/-
  Layer 18's reference: right programs made of any rules.
-/
import Derived.Test.YtdbennmbbmoflaaResE
import Derived.Deep.LoopGhost
import Derived.Deep.RegionHeld3
namespace Go.Proofs.Ytdbennmbbmoflaa
open Go Go.RowKit

theorem i64_and65535 (n : Int) : bits .and .i64 n 65535 = n % 65536 := by
  have h1 : (BitVec.ofInt 64 65535).toNat = 2 ^ 16 - 1 := by decide
  have key : (BitVec.ofInt 64 n &&& BitVec.ofInt 64 65535).toNat = (n % ((2 ^ 64 : Nat) : Int)).toNat % 2 ^ 16 := by
    rw [BitVec.toNat_and, BitVec.toNat_ofInt, h1, Nat.and_two_pow_sub_one_eq_mod]
  show IntKind.i64.wrap ((BitVec.ofInt 64 n &&& BitVec.ofInt 64 65535).toNat : Nat) = n % 65536
  rw [key, IntKind.wrap_i64]
  omega

/-! ### set -/
def maskN (x : Int) : Nat := (x % 65536).toNat
def markL (l : List Int) (n : Nat) (k : Nat) : List Bool := (l.take k).foldl (fun o x => o.set (maskN x % n) true) (List.replicate n false)
def setTo (l : List Int) (n : Nat) (k : Nat) : List Int := ((List.range k).filter fun i => (markL l n (min l.length 4)).getD i false).map (fun (i : Nat) => (i : Int))
def setL (l : List Int) (n : Nat) : List Int := setTo l n n
theorem markL_len (l : List Int) (n k : Nat) : (markL l n k).length = n := by
  unfold markL
  have : ∀ (l : List Int) (o : List Bool), (l.foldl (fun o x => o.set (maskN x % n) true) o).length = o.length := by
    intro l
    induction l with
    | nil => intro o; rfl
    | cons x l ih => intro o; rw [List.foldl_cons, ih]; simp
  rw [this]; simp
theorem markL_succ (l : List Int) (n k : Nat) (hk : k < l.length) : markL l n (k + 1) = (markL l n k).set (maskN l[k] % n) true := by
  unfold markL; rw [List.take_succ_eq_append_getElem hk, List.foldl_append]; rfl
theorem setTo_len (l : List Int) (n k : Nat) : (setTo l n k).length ≤ k := by
  unfold setTo
  have := List.length_filter_le (fun i => (markL l n (min l.length 4)).getD i false) (List.range k)
  simpa using this
theorem setTo_yes (l : List Int) (n k : Nat) (h : (markL l n (min l.length 4)).getD k false = true) : setTo l n (k + 1) = setTo l n k ++ [(k : Int)] := by
  unfold setTo; rw [List.range_succ, List.filter_append, List.filter_cons_of_pos (p := fun i => (markL l n (min l.length 4)).getD i false) h]; simp
theorem setTo_no (l : List Int) (n k : Nat) (h : (markL l n (min l.length 4)).getD k false = false) : setTo l n (k + 1) = setTo l n k := by
  unfold setTo; rw [List.range_succ, List.filter_append, List.filter_cons_of_neg (by rw [h]; simp)]; simp

theorem infoBool' : (Try.prog.info? 4).map (fun i => (i.zero, i.size, i.bytes)) = some (some (.bool false), 1, 1) := by kernel_rfl

set_option maxHeartbeats 800000 in
set_option maxRecDepth 100000 in
theorem set_spec {S : Nat → Prop} {w : World} {v : Value} {l : List Int} {n : Nat} (hl : Seq intE S w v l) (hn : 0 < n) (hn2 : n ≤ 1000) :
    Calls Try.prog 27 #[v, .int .i64 n] w (Ret (fun o w' => Seq intE (fun b => w.heap.size ≤ b) w' o (setL l n)) w) := by
  obtain ⟨la, lc, rfl, hl1, hl2, hl3, hl4, hl5⟩ := hl
  have hmk := run_make_row' (P := Try.prog) 52 4 (.bool false) 1 Try.underlying52 infoBool' rfl .i64 .i64 n (by omega) (by omega)
  go_enter Try.func27, Try.ntmps27
  go_wp2_with fail
  clear hmk
  go_loopw [6] (fun i wr => ∃ k : Nat, k ≤ l.length ∧ i = .int .i64 k ∧ k ≤ 4 ∧ Below w.heap.size w wr ∧ RowB 4 wr w.heap.size (markL l n k)) (fun i _ => l.length - (intOf i).toNat)
  case atStart => exact ⟨0, Nat.zero_le _, rfl, by omega, Seq.way, RowB.made _ _ _ rfl⟩
  case round =>
    obtain ⟨k, hk, rfl, hk4, hbel, hrow⟩ := hrel
    have hws : w.heap.size < wr.heap.size := hrow.lt
    by_cases hlt : k < l.length ∧ k < 4
    · obtain ⟨hlt, h4⟩ := hlt
      obtain ⟨b, off, rfl, hS, hb, h0, hok⟩ := (hl5.below hbel fun _ _ h => h).int hlt
      have hms := Lib.hid (markL_succ l n k hlt)
      have hml := markL_len l n k
      have hbt : bits BinOp.and IntKind.i64 l[k] 65535 = ((maskN l[k] : Nat) : Int) := by
        rw [i64_and65535, maskN, Int.toNat_of_nonneg (by omega)]
      obtain ⟨m, hm⟩ : ∃ m, m = maskN l[k] := ⟨_, rfl⟩
      rw [← hm] at hbt hms
      have hmn : m % n < n := Nat.mod_lt _ hn
      have hmi2 : (0 : Int) ≤ (m : Int) % (n : Int) := by omega
      have hmi3 : (m : Int) % (n : Int) < (n : Int) := Int.emod_lt_of_pos _ (by omega)
      have hmi4 : ((m : Int) % (n : Int)).toNat = m % n := by omega
      obtain ⟨old, hce⟩ : ∃ u, wr.cell? ⟨w.heap.size, m % n, none⟩ = some u := ⟨_, hrow.cell (j := m % n) (by omega)⟩
      have hfr := hrow.frozen (m % n)
      have hml' := Lib.hid hml
      clear hm hl5 hml
      go_wp2_with fail
      go_roundw
      case rel => exact ⟨k + 1, hlt, by go_num, by omega, hbel.setCell (Nat.le_refl _) _, by rw [hms.out]; exact hrow.set _ _⟩
      case measure => simp [intOf]; omega
    · have hkm : k = min l.length 4 := by omega
      have hrow2 : RowB 4 wr w.heap.size (markL l n (min l.length 4)) := by rw [← hkm]; exact hrow
      have hlt1 : ¬ (k < l.length ∧ k < 4) := hlt
      have hml := Lib.hid (markL_len l n (min l.length 4))
      obtain ⟨w1, rfl⟩ : ∃ w1, w1 = wr := ⟨_, rfl⟩
      clear hrow hkm hl5
      have hrest : ∀ Q : Prop, Q → Q := fun _ h => h
      by_cases hk1 : k < l.length
      all_goals
        have hk2 : (decide (k < l.length) = true → decide ((k : Int) < 4) = false) := by simp; omega
        go_wp2_with fail
        go_loopw [7, 8] (fun o i wr => ∃ j : Nat, j ≤ n ∧ i = .int .i64 j ∧ Own intE (fun _ => False) (w.heap.size + 1) 3 wr o (setTo l n j) ∧ Below (w.heap.size + 1) w1 wr) (fun _ i _ => n - (intOf i).toNat)
        case atStart => exact ⟨0, Nat.zero_le _, rfl, Own.lit0 rfl (by omega) rfl, Below.alloc (Below.refl _ _) (by omega) _⟩
        case round =>
          obtain ⟨j, hj, rfl, hown, hbel2⟩ := hrel
          have hrow3 := hrow2.below hbel2 (Nat.lt_succ_self _)
          have hszr : w.heap.size + 1 ≤ wr.heap.size := hrow3.lt
          have hsl := setTo_len l n j
          by_cases hjn : j < n
          · obtain ⟨u, hu⟩ : ∃ u, u = (markL l n (min l.length 4)).getD j false := ⟨_, rfl⟩
            have hjl : j < (markL l n (min l.length 4)).length := by rw [hml.out]; exact hjn
            have hce : wr.cell? ⟨w.heap.size, j, none⟩ = some (.bool u) := by
              rw [hrow3.cell hjl, hu, List.getD_eq_getElem?_getD, List.getElem?_eq_getElem hjl]; rfl
            clear hjl hrow2
            cases u
            · have hsn := Lib.hid (setTo_no l n j hu.symm)
              clear hu
              go_wp2_with fail
              go_roundw
              case rel => exact ⟨j + 1, hjn, by go_num, by rw [hsn.out]; exact hown, hbel2⟩
              case measure => simp [intOf]; omega
            · have hsn := Lib.hid (setTo_yes l n j hu.symm)
              clear hu
              go_wp2_with (at_builtin; refine wpList_app_int rfl _ _ 24 rfl Try.underlying24 infoInt rfl hown rfl (y := (j : Int)) (Below.alloc (Below.refl _ _) (Nat.le_refl _) _) ?_ ?_ ?_ ?_ ?_)
              any_goals (first | exact ⟨by omega, by omega⟩ | omega | (go_simp; done))
              intro ao cap w' hown' hkept
              have hb5 := hbel2.trans ((Below.alloc (Below.refl _ _) hszr _).trans hkept.below)
              clear hown hkept
              go_wp2_with fail
              go_roundw
              case rel => exact ⟨j + 1, hjn, by go_num, by rw [hsn.out]; simpa using hown', hb5⟩
              case measure => simp [intOf]; omega
          · obtain rfl : j = n := by omega
            clear hrow2
            go_wp2_with fail
            go_ret
            refine ⟨_, rfl, hbel.trans (hbel2.mono (by omega)), ?_⟩
            exact hown.seq (by omega) fun b _ hb => hb.elim False.elim fun h => by omega
end Go.Proofs.Ytdbennmbbmoflaa
