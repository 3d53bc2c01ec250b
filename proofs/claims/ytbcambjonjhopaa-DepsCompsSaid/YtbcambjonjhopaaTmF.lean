/-
  R03: terms made of any cells.
-/
import Derived.Test.YtbcambjonjhopaaTmE
namespace Go.Proofs.Ytbcambjonjhopaa
open Go Go.RowKit

theorem i64_mask (n : Int) (k : Nat) (hk : k ≤ 16) (m : Nat) (hm : m = 2 ^ k - 1) : bits .and .i64 n (m : Int) = n % ((2 ^ k : Nat) : Int) := by
  have hp : (2 : Nat) ^ k ≤ 65536 := Nat.le_trans (Nat.pow_le_pow_right (by omega) hk) (by decide)
  have hp0 : 0 < (2 : Nat) ^ k := Nat.pow_pos (by omega)
  have hd : ∃ q, 2 ^ 64 = 2 ^ k * q := ⟨2 ^ (64 - k), by rw [← Nat.pow_add]; congr 1; omega⟩
  have h1 : (BitVec.ofInt 64 (m : Int)).toNat = 2 ^ k - 1 := by
    rw [BitVec.toNat_ofInt]
    omega
  have key : (BitVec.ofInt 64 n &&& BitVec.ofInt 64 (m : Int)).toNat = (n % ((2 ^ 64 : Nat) : Int)).toNat % 2 ^ k := by
    rw [BitVec.toNat_and, BitVec.toNat_ofInt, h1, Nat.and_two_pow_sub_one_eq_mod]
  show IntKind.i64.wrap ((BitVec.ofInt 64 n &&& BitVec.ofInt 64 (m : Int)).toNat : Nat) = _
  rw [key, IntKind.wrap_i64]
  have h2 : (((n % ((2 ^ 64 : Nat) : Int)).toNat % 2 ^ k : Nat) : Int) = n % ((2 ^ k : Nat) : Int) := by
    rw [Int.natCast_emod, Int.toNat_of_nonneg (Int.emod_nonneg _ (by decide))]
    exact Int.emod_emod_of_dvd _ (by
      obtain ⟨q, hq⟩ := hd
      rw [hq]
      exact ⟨(q : Int), by rw [Int.natCast_mul]⟩)
  rw [h2]
  have h3 := Int.emod_nonneg n (show ((2 ^ k : Nat) : Int) ≠ 0 by omega)
  have h4 := Int.emod_lt_of_pos n (show (0 : Int) < ((2 ^ k : Nat) : Int) by omega)
  omega
theorem i64_and1 (n : Int) : bits .and .i64 n 1 = n % 2 := i64_mask n 1 (by omega) 1 (by decide)
theorem i64_and3 (n : Int) : bits .and .i64 n 3 = n % 4 := i64_mask n 2 (by omega) 3 (by decide)
theorem i64_and7 (n : Int) : bits .and .i64 n 7 = n % 8 := i64_mask n 3 (by omega) 7 (by decide)
theorem nat_and2 (x : Nat) : x &&& 2 = x % 4 / 2 * 2 := by
  have h : x &&& 2 = (x &&& 3) &&& 2 := by rw [Nat.and_assoc]; rfl
  rw [h, show (3 : Nat) = 2 ^ 2 - 1 by decide, Nat.and_two_pow_sub_one_eq_mod]
  have h4 : x % 2 ^ 2 < 4 := Nat.mod_lt _ (by decide)
  rw [show x % 4 = x % 2 ^ 2 by rfl]
  generalize x % 2 ^ 2 = r at h4
  rcases (show r = 0 ∨ r = 1 ∨ r = 2 ∨ r = 3 by omega) with rfl | rfl | rfl | rfl <;> rfl
theorem i64_and2 (n : Nat) (hn : n < 9000000000000000000) : bits .and .i64 (n : Int) 2 = ((n % 4 / 2 * 2 : Nat) : Int) := by
  have h1 : (BitVec.ofInt 64 2).toNat = 2 := by decide
  have h2 : (BitVec.ofInt 64 (n : Int)).toNat = n := by rw [BitVec.toNat_ofInt]; omega
  show IntKind.i64.wrap ((BitVec.ofInt 64 (n : Int) &&& BitVec.ofInt 64 2).toNat : Nat) = _
  rw [BitVec.toNat_and, h1, h2, nat_and2, IntKind.wrap_i64]
  omega

/-! ### The names -/
def nameM (s : ByteArray) : ByteArray := if s.size % 2 = 1 then ⟨#[102]⟩ else if s.size % 4 / 2 = 1 then ⟨#[103]⟩ else ⟨#[97]⟩
theorem nameM_ok (s : ByteArray) : nameOK (nameM s) = true := by
  unfold nameM
  split
  · decide +kernel
  · split <;> decide +kernel

/-! ### Terms made of any cells -/
def aC : Cell := ⟨3, ⟨#[97]⟩, 0⟩
def pickC (l : List Cell) (most i need : Nat) : Cell :=
  match l[i]? with
  | none => aC
  | some c => if c.kind % 4 = 1 then ⟨1, ⟨#[]⟩, c.n % 8⟩ else if c.kind % 4 = 2 then ⟨2, ⟨#[]⟩, c.n % 4⟩
    else if ((i + need : Nat) : Int) + c.n % 4 ≤ (most : Int) then ⟨3, nameM c.name, c.n % 4⟩ else aC
def madeGo : Nat → List Cell → Nat → List Cell → Nat → List Cell
  | 0, _, _, out, _ => out
  | f + 1, l, most, out, need => if need = 0 then out else madeGo f l most (out ++ [pickC l most out.length need]) (need - 1 + arity (pickC l most out.length need))
def madeT (most : Nat) (l : List Cell) : List Cell := if rightT l = true ∧ l.length ≤ most then l else madeGo most l most [] 1
theorem pickC_ok (l : List Cell) (most i need : Nat) : cellOK (pickC l most i need) = true := by
  unfold pickC
  have ha : cellOK aC = true := by decide +kernel
  cases l[i]? with
  | none => exact ha
  | some c =>
    simp only
    split
    · unfold cellOK
      rw [if_pos rfl]
      simp only [Bool.and_eq_true, decide_eq_true_eq]
      exact ⟨⟨rfl, by omega⟩, by omega⟩
    · split
      · unfold cellOK
        rw [if_neg (by simp), if_pos rfl]
        simp only [Bool.and_eq_true, decide_eq_true_eq]
        exact ⟨⟨rfl, by omega⟩, by omega⟩
      · split
        · unfold cellOK
          rw [if_neg (by simp), if_neg (by simp), if_pos rfl]
          simp only [Bool.and_eq_true, decide_eq_true_eq]
          exact ⟨⟨nameM_ok _, by omega⟩, by omega⟩
        · exact ha
theorem pickC_arity (l : List Cell) (most i need : Nat) (h : i + need ≤ most) : i + need + arity (pickC l most i need) ≤ most := by
  unfold pickC
  have ha : arity aC = 0 := by decide
  cases l[i]? with
  | none => simp only [ha]; omega
  | some c =>
    simp only
    split
    · rw [show arity ⟨1, ⟨#[]⟩, c.n % 8⟩ = 0 by simp [arity]]
      omega
    · split
      · rw [show arity ⟨2, ⟨#[]⟩, c.n % 4⟩ = 0 by simp [arity]]
        omega
      · split
        · rw [show arity ⟨3, nameM c.name, c.n % 4⟩ = (c.n % 4).toNat by unfold arity; rw [if_pos rfl]]
          omega
        · simp only [ha]; omega
theorem madeGo_right (l : List Cell) (most : Nat) : ∀ (f : Nat) (out : List Cell) (need : Nat), out.length + need ≤ most → most ≤ out.length + f → (∀ r, endC 1 (out ++ r) = (endC need r).map (out.length + ·)) →
    endC 1 (madeGo f l most out need) = some (madeGo f l most out need).length ∧ (madeGo f l most out need).length ≤ most
  | 0, out, need, h, hf, hi => by
    obtain rfl : need = 0 := by omega
    have := hi []
    rw [List.append_nil, endC_zero] at this
    exact ⟨by rw [madeGo, this]; rfl, by rw [madeGo]; omega⟩
  | f + 1, out, need, h, hf, hi => by
    unfold madeGo
    split
    · rename_i h0
      subst h0
      have := hi []
      rw [List.append_nil, endC_zero] at this
      exact ⟨by rw [this]; rfl, by omega⟩
    · rename_i h0
      have hok := pickC_ok l most out.length need
      have har := pickC_arity l most out.length need h
      refine madeGo_right l most f _ _ (by simp; omega) (by simp; omega) fun r => ?_
      rw [List.append_assoc, hi, List.singleton_append]
      obtain ⟨n', rfl⟩ : ∃ n', need = n' + 1 := ⟨need - 1, by omega⟩
      rw [endC_succ, if_pos hok, Nat.add_sub_cancel, Option.map_map]
      congr 1
      funext m
      simp; omega
theorem madeT_right {most : Nat} (l : List Cell) (h : 1 ≤ most) (h2 : most ≤ 200) : RightT (madeT most l) ∧ (madeT most l).length ≤ most := by
  unfold madeT
  split
  · rename_i hr
    exact ⟨of_decide_eq_true hr.1, hr.2⟩
  · obtain ⟨h3, h4⟩ := madeGo_right l most most [] 1 (by simpa using h) (by simp) (fun r => by simp)
    exact ⟨⟨by omega, h3⟩, h4⟩
theorem madeT_self {most : Nat} {l : List Cell} (h : RightT l) (h2 : l.length ≤ most) : madeT most l = l := by
  unfold madeT
  rw [if_pos ⟨decide_eq_true h, h2⟩]
end Go.Proofs.Ytbcambjonjhopaa
