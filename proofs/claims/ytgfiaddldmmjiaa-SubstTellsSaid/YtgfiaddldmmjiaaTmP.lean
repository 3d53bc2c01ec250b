/-
  The program's terms: where they end; right ones.
-/
import Derived.Test.YtgfiaddldmmjiaaTmO
import Derived.Laws.EntriesVeiled
namespace Go.Proofs.Ytgfiaddldmmjiaa
open Go Go.RowKit

def optN : Option Nat → Int
  | none => 0
  | some m => m
def endN (t : List Cell) (p : Nat) : Int := optN (endO t p)
theorem endN_zero {t : List Cell} {p : Nat} : endN t p = 0 ↔ endO t p = none := by
  unfold endN endO
  cases h : endC 1 (t.drop p) with
  | none => simp [optN]
  | some m => have := endC_le h; simp [optN]; omega
theorem endO_here {t : List Cell} {p : Nat} (hp : p < t.length) : endO t p = if cellOK t[p] = true then (endC (arity t[p]) (t.drop (p + 1))).map (p + 1 + ·) else none := by
  unfold endO
  rw [endC_step hp (Nat.le_refl _), Nat.sub_self, Nat.zero_add]
theorem endC_more {t : List Cell} {n p : Nat} : (endC (n + 1) (t.drop p)).map (p + ·) = (endO t p).bind fun q => (endC n (t.drop q)).map (q + ·) := by
  unfold endO
  rw [Nat.add_comm n 1, endC_add]
  cases endC 1 (t.drop p) with
  | none => rfl
  | some m =>
    simp only [Option.bind_some, Option.map_some, List.drop_drop, Option.map_map]
    congr 1
    funext x
    show p + (m + x) = p + m + x
    omega

/-- The closure 'visit', over a box with the term and a box with itself. -/
def visitV (Bt Bv : Nat) : Value := .func (.func 57) #[] #[.pointer (some ⟨Bt, 0, none⟩), .pointer (some ⟨Bv, 0, none⟩)]

set_option maxHeartbeats 4000000 in
set_option maxRecDepth 100000 in
theorem visit_spec : ∀ (n : Nat) {S : Nat → Prop} {w : World} {v : Value} {t : List Cell} {p Bt Bv : Nat} (_ : t.length ≤ p + n) (_ : Seq cellE S w v t) (_ : Bt < w.heap.size) (_ : Bv < w.heap.size)
    (_ : w.cell? ⟨Bt, 0, none⟩ = some v) (_ : w.cell? ⟨Bv, 0, none⟩ = some (visitV Bt Bv)),
    Calls Try.prog 57 #[.int .i64 p, .pointer (some ⟨Bt, 0, none⟩), .pointer (some ⟨Bv, 0, none⟩)] w (RetV (.int .i64 (endN t p)) w) := by
  intro n
  induction n with
  | zero =>
    intro S w v t p Bt Bv hn ht lt lv ct cv
    have hz := Lib.hid (show endN t p = 0 by rw [endN_zero]; unfold endO; rw [List.drop_eq_nil_of_le (by omega)]; rfl)
    obtain ⟨ao, cap, rfl, -⟩ := ht
    have hle : (t.length : Int) ≤ (p : Int) := by omega
    go_enter Try.func57, Try.ntmps57
    go_wp2_with fail
    go_ret
    exact ⟨ret_int hz.out.symm, Below.refl _ _⟩
  | succ n ih =>
    intro S w v t p Bt Bv hn ht lt lv ct cv
    have Ht := Lib.hid ht
    obtain ⟨ao, cap, rfl, -, -, hal, -, h5⟩ := ht
    by_cases hp : p < t.length
    · obtain ⟨b, off, rfl, -, hb, c0, c1, c2, ok0, ok2, okn⟩ := h5.cell hp
      have hst := Lib.hid (endO_here hp)
      obtain ⟨c, hc⟩ : ∃ c, c = t[p] := ⟨_, rfl⟩
      rw [← hc] at c0 c1 c2 ok0 ok2 okn hst
      clear hc h5
      have hpl : (p : Int) < (t.length : Int) := by omega
      have hp0 : (0 : Int) ≤ (p : Int) := by omega
      have hpd : decide (t.length ≤ p) = false := decide_eq_false (by omega)
      have Cv := Lib.hid cv
      clear cv
      go_enter Try.func57, Try.ntmps57
      go_wp2_with fail
      refine (rightC_spec (c := c) okn).mono ?_
      rintro e w1 ⟨rfl, hb1⟩
      have ct1 : w1.cell? ⟨Bt, 0, none⟩ = _ := (hb1.cell (p := ⟨Bt, 0, none⟩) lt).trans ct
      have e0 : w1.cell? ⟨b, off + p * 3, none⟩ = _ := (hb1.cell (p := ⟨b, off + p * 3, none⟩) hb).trans c0
      have e2 : w1.cell? ⟨b, off + p * 3 + 2, none⟩ = _ := (hb1.cell (p := ⟨b, off + p * 3 + 2, none⟩) hb).trans c2
      have hz1 := hb1.size
      have lt1 : Bt < w1.heap.size := by omega
      have lb1 : b < w1.heap.size := by omega
      clear c0 c1 c2 ct
      cases hok : cellOK c
      · have hz := Lib.hid (show endN t p = 0 by rw [endN_zero, hst.out, hok]; rfl)
        go_wp2_with fail
        go_ret
        exact ⟨ret_int hz.out.symm, hb1⟩
      · have hsk := Lib.hid (show endO t p = (endC (arity c) (t.drop (p + 1))).map (p + 1 + ·) by rw [hst.out, hok]; rfl)
        have har := arity_le hok
        clear hst
        by_cases h3 : c.kind = 3
        · have hcn := cellOK_fun hok h3
          obtain ⟨a, ha⟩ : ∃ a : Nat, c.n = (a : Int) := ⟨c.n.toNat, by omega⟩
          have har2 : arity c = a := by unfold arity; rw [if_pos h3]; omega
          rw [har2] at hsk har
          rw [ha] at e2
          rw [h3] at e0
          clear h3 hcn har2 ha hok
          go_wp2_with fail
          go_loopw [5, 32] (fun nx j wr => ∃ (k q : Nat), k ≤ a ∧ j = .int .i64 k ∧ nx = .int .i64 q ∧ p < q ∧ q ≤ t.length ∧ Hid (endO t p = (endC (a - k) (t.drop q)).map (q + ·)) ∧ Below w.heap.size w wr) (fun _ j _ => a - (intOf j).toNat)
          case atStart => exact ⟨0, p + 1, Nat.zero_le _, rfl, by go_num, by omega, by omega, hsk, hb1⟩
          case round =>
            obtain ⟨k, q, hk, rfl, rfl, hpq, hql, hinv, hbr⟩ := hrel
            have hzr := hbr.size
            have cvr : wr.cell? ⟨Bv, 0, none⟩ = some (visitV Bt Bv) := (hbr.cell (p := ⟨Bv, 0, none⟩) lv).trans Cv.out
            have Ctr := Lib.hid (show wr.cell? ⟨Bt, 0, none⟩ = some (.slice (some ⟨b, off, none⟩) t.length cap) from by
              have := hb1.cell (p := ⟨Bt, 0, none⟩) lt
              exact (hbr.cell (p := ⟨Bt, 0, none⟩) lt).trans (this.symm.trans ct1))
            have lvr : Bv < wr.heap.size := by omega
            by_cases hka : k < a
            · have hkI : (k : Int) < (a : Int) := by omega
              have hm := Lib.hid (show endO t p = (endO t q).bind fun r => (endC (a - (k + 1)) (t.drop r)).map (r + ·) by
                rw [hinv.out, show a - k = (a - (k + 1)) + 1 by omega, endC_more])
              have Cvr := Lib.hid cvr
              unfold visitV at cvr
              go_wp2_with fail
              refine (ih (p := q) (by omega) (Ht.out.at hbr) (by omega) lvr Ctr.out Cvr.out).mono ?_
              rintro e w2 ⟨rfl, hb2⟩
              have hb2' := below_step hb2 hbr
              cases hE : endO t q with
              | none =>
                have hz : endN t q = 0 := endN_zero.2 hE
                have hz2 := Lib.hid (show endN t p = 0 by rw [endN_zero, hm.out, hE]; rfl)
                rw [hz]
                clear hz
                go_wp2_with fail
                go_ret
                exact ⟨ret_int hz2.out.symm, hb2'⟩
              | some r =>
                have hz : endN t q = (r : Int) := by unfold endN; rw [hE]; rfl
                have hr : q < r ∧ r ≤ t.length := by
                  unfold endO at hE
                  obtain ⟨m, hm1, rfl⟩ := Option.map_eq_some_iff.1 hE
                  have := endC_le hm1
                  rw [List.length_drop] at this
                  omega
                have hm2 := Lib.hid (show endO t p = (endC (a - (k + 1)) (t.drop r)).map (r + ·) by rw [hm.out, hE]; rfl)
                rw [hz]
                have hrz : ¬ (r : Int) = 0 := by omega
                clear hz hE hm
                go_wp2_with fail
                go_roundw
                case rel => exact ⟨k + 1, r, hka, by go_num, rfl, by omega, hr.2, hm2, hb2'⟩
                case measure => simp [intOf]; omega
            · have hz := Lib.hid (show endN t p = (q : Int) by unfold endN; rw [hinv.out, show a - k = 0 by omega, endC_zero]; rfl)
              obtain rfl : k = a := by omega
              go_wp2_with fail
              go_ret
              exact ⟨ret_int hz.out.symm, hbr⟩
        · have h3' : (c.kind != 3) = true := by simpa using h3
          have hz := Lib.hid (show endN t p = (p : Int) + 1 by unfold endN; rw [hsk.out]; unfold arity; rw [if_neg h3, endC_zero]; rfl)
          go_wp2_with fail
          go_ret
          exact ⟨ret_int (by rw [hz.out]), hb1⟩
    · have hz := Lib.hid (show endN t p = 0 by rw [endN_zero]; unfold endO; rw [List.drop_eq_nil_of_le (by omega)]; rfl)
      have hle : (t.length : Int) ≤ (p : Int) := by omega
      go_enter Try.func57, Try.ntmps57
      go_wp2_with fail
      go_ret
      exact ⟨ret_int hz.out.symm, Below.refl _ _⟩

theorem endP_spec {S : Nat → Prop} {w : World} {v : Value} {t : List Cell} {p : Nat} (ht : Seq cellE S w v t) (hp : p ≤ 1000000000000) :
    Calls Try.prog 50 #[v, .int .i64 p] w (RetV (.int .i64 (endN t p)) w) := by
  have Ht := Lib.hid ht.bnd
  obtain ⟨ao, cap, rfl, -⟩ := ht
  go_enter Try.func50, Try.ntmps50
  go_wp2_with fail
  refine (visit_spec t.length (p := p) (v := .slice ao t.length cap) (by omega) (Ht.out.at Seq.way) (by simp; omega) (by simp) (by go_simp) (by unfold visitV; go_simp)).mono ?_
  rintro e w1 ⟨rfl, hb1⟩
  have hb1' : Below w.heap.size w w1 := below_step hb1 Seq.way
  go_wp2_with fail
  go_ret
  exact ⟨rfl, hb1'⟩

theorem RightP_spec {S : Nat → Prop} {w : World} {v : Value} {t : List Cell} (ht : Seq cellE S w v t) :
    Calls Try.prog 35 #[v] w (RetV (.bool (rightT t)) w) := by
  have Ht := Lib.hid ht
  have hr := Lib.hid (rightT_iff t)
  obtain ⟨ao, cap, rfl, -⟩ := ht
  go_enter Try.func35, Try.ntmps35
  go_wp2_with fail
  refine (inI_spec).mono ?_
  rintro e _ ⟨rfl, rfl⟩
  by_cases hl : 1 ≤ t.length ∧ t.length ≤ 200
  · have hd : (decide ((1 : Int) ≤ (t.length : Int)) && decide ((t.length : Int) ≤ 200)) = true := by simp; omega
    rw [hd]
    have hrr := Lib.hid (show rightT t = decide (endN t 0 = (t.length : Int)) by
      rw [hr.out, decide_eq_true hl.1, decide_eq_true hl.2, Bool.true_and, Bool.true_and]
      apply decide_eq_decide.2
      unfold endZ endN
      cases h : endO t 0 with
      | none => simp [optZ, optN]; omega
      | some m => rfl)
    go_wp2_with fail
    refine (endP_spec (p := 0) Ht.out (by omega)).mono ?_
    rintro e w1 ⟨rfl, hb1⟩
    go_wp2_with fail
    go_ret
    refine ⟨ret_bool ?_, hb1⟩
    rw [hrr.out, Bool.eq_iff_iff]
    simp
  · have hd : (decide ((1 : Int) ≤ (t.length : Int)) && decide ((t.length : Int) ≤ 200)) = false := by
      rw [Bool.eq_false_iff]; simp; omega
    rw [hd]
    go_wp2_with fail
    go_ret
    refine ⟨ret_bool ?_, Below.refl _ _⟩
    rw [hr.out]
    have : (decide (1 ≤ t.length) && decide (t.length ≤ 200)) = false := by rw [Bool.eq_false_iff]; simp; omega
    rw [this]; rfl
end Go.Proofs.Ytgfiaddldmmjiaa
