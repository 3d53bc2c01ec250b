/-
  R01: cells, ends, right terms, the order.
-/
import Derived.Test.YtaedgpcmkagpeaaGreatTmA
namespace Go.Proofs.YtaedgpcmkagpeaaGreat
open Go Go.RowKit

theorem name_none {s : ByteArray} {k : Nat} (hk : k < s.size) (h : oddB s[k] = true) : nameOK s = false := by
  unfold nameOK
  have hm : s[k] ∈ s.toList := by
    rw [ByteArray.toList_eq]; exact Array.getElem_mem_toList _
  have : (s.toList.all fun b => !oddB b) = false := by
    rw [List.all_eq_false]
    exact ⟨_, hm, by simp [h]⟩
  rw [this]; simp
theorem name_all {s : ByteArray} (h : ∀ k, ∀ hk : k < s.size, oddB s[k] = false) : nameOK s = (decide (1 ≤ s.size) && decide (s.size ≤ 12)) := by
  unfold nameOK
  have : (s.toList.all fun b => !oddB b) = true := by
    rw [List.all_eq_true]
    intro b hb
    rw [ByteArray.toList_eq] at hb
    obtain ⟨k, hk, rfl⟩ := List.mem_iff_getElem.1 hb
    have := h k hk
    simp only [Bool.not_eq_true']
    exact this
  rw [this]; simp

theorem name_spec {w : World} {s : ByteArray} (hs : s.size ≤ 140737488355328) :
    Calls Tryz.prog 150 #[.string s] w (PureV (.bool (nameOK s)) w) := by
  go_enter Tryz.func150, Tryz.ntmps150
  go_wp2
  go_loopw [3] (fun i wr => ∃ k : Nat, k ≤ s.size ∧ i = .int .i64 k ∧ w = wr ∧ Hid (∀ j, ∀ hj : j < s.size, j < k → oddB s[j] = false)) (fun i _ => s.size - (intOf i).toNat)
  case atStart => exact ⟨0, Nat.zero_le _, rfl, rfl, Lib.hid fun j _ h => by omega⟩
  case round =>
    obtain ⟨k, hk, rfl, rfl, hno⟩ := hrel
    by_cases hlt : k < s.size
    · have hkl : (k : Int) < (s.size : Int) := by omega
      have hk0 : (0 : Int) ≤ (k : Int) := by omega
      have hodd : oddB s[k] = (decide ((s[k].toNat : Int) < 32) || decide (126 < (s[k].toNat : Int)) || ((s[k].toNat : Int) == 39)) := by
        unfold oddB
        congr 1
        · congr 1 <;> (apply decide_eq_decide.2; omega)
        · rw [Bool.eq_iff_iff]; simp; omega
      have Hodd := Lib.hid hodd
      clear hodd
      go_wp2_with fail
      case roundEnd =>
        go_roundw
        case rel =>
          refine ⟨k + 1, hlt, by go_num, trivial, Lib.hid fun j hj h => ?_⟩
          by_cases hjk : j < k
          · exact hno.out j hj hjk
          · obtain rfl : j = k := by omega
            rw [Hodd.out]
            simp_all
        case measure => simp [intOf]; omega
      all_goals
        go_ret
        exact ⟨ret_bool (name_none hlt (by rw [Hodd.out]; simp_all)).symm, rfl⟩
    · obtain rfl : k = s.size := by omega
      have h1 := Lib.hid (name_all (s := s) fun j hj => hno.out j hj hj)
      go_wp2_with fail
      all_goals
        go_ret
        refine ⟨ret_bool ?_, rfl⟩
        rw [h1.out]
        first
          | (simp; omega)
          | (rw [Bool.eq_iff_iff]; simp only [decide_eq_true_eq, Bool.and_eq_true]; omega)

/-- A cell as a value. -/
def cellV (c : Cell) : Value := .agg #[.int .i64 c.kind, .string c.name, .int .i64 c.n]

theorem cell_spec {w : World} {c : Cell} (hs : c.name.size ≤ 140737488355328) :
    Calls Tryz.prog 137 #[cellV c] w (RetV (.bool (cellOK c)) w) := by
  have hem : decide (c.name.size = 0) = decide (c.name.toList = []) := by
    rw [Bool.eq_iff_iff, decide_eq_true_iff, decide_eq_true_iff, ByteArray.toList_eq]
    exact ⟨fun h => List.eq_nil_of_length_eq_zero (by simpa using h), fun h => by simpa using congrArg List.length h⟩
  have hok : cellOK c = (if c.kind = 1 then decide (c.name.toList = []) && decide (0 ≤ c.n) && decide (c.n ≤ 999)
    else if c.kind = 2 then decide (c.name.toList = []) && decide (-2147483647 ≤ c.n) && decide (c.n ≤ 2147483647)
    else if c.kind = 3 then nameOK c.name && decide (0 ≤ c.n) && decide (c.n ≤ 6)
    else false) := by rw [← hem]; rfl
  have Hok := Lib.hid hok
  clear hok hem
  unfold cellV
  go_enter Tryz.func137, Tryz.ntmps137
  by_cases h1 : c.kind = 1
  · go_wp2_with fail
    all_goals
      go_ret
      refine ⟨ret_bool ?_, Seq.way⟩
      rw [Hok.out]
      simp_all <;> omega
  · by_cases h2 : c.kind = 2
    · go_wp2_with fail
      all_goals
        go_ret
        refine ⟨ret_bool ?_, Seq.way⟩
        rw [Hok.out]
        simp_all <;> omega
    · by_cases h3 : c.kind = 3
      · go_wp2_with fail
        refine (name_spec hs).mono ?_
        rintro e w1 ⟨rfl, rfl⟩
        cases hn : nameOK c.name
        all_goals
          go_wp2_with fail
          all_goals
            go_ret
            refine ⟨ret_bool ?_, Seq.way⟩
            rw [Hok.out]
            simp_all <;> omega
      · go_wp2_with fail
        all_goals
          go_ret
          refine ⟨ret_bool ?_, Seq.way⟩
          rw [Hok.out]
          simp_all <;> omega

theorem cellOK_fun {c : Cell} (h : cellOK c = true) (h3 : c.kind = 3) : 0 ≤ c.n ∧ c.n ≤ 6 := by
  unfold cellOK at h
  rw [h3, if_neg (by omega), if_neg (by omega), if_pos rfl] at h
  simp only [Bool.and_eq_true, decide_eq_true_eq] at h
  omega

/-- Where the term ends that begins at a place: its place, or -1. -/
def endO (t : List Cell) (at_ : Nat) : Option Nat := (endC 1 (t.drop at_)).map (at_ + ·)
def optZ : Option Nat → Int
  | none => -1
  | some m => m
def endZ (t : List Cell) (at_ : Nat) : Int := optZ (endO t at_)

theorem endC_step {t : List Cell} {k o : Nat} (hk : k < t.length) (ho : 1 ≤ o) : (endC o (t.drop k)).map (k + ·) =
    if cellOK t[k] = true then (endC (o - 1 + arity t[k]) (t.drop (k + 1))).map (k + 1 + ·) else none := by
  obtain ⟨o', rfl⟩ : ∃ o', o = o' + 1 := ⟨o - 1, by omega⟩
  rw [List.drop_eq_getElem_cons hk, endC_succ, Nat.add_sub_cancel]
  split
  · rw [Option.map_map]
    congr 1
    funext m
    show k + (m + 1) = k + 1 + m
    omega
  · rfl

set_option maxHeartbeats 1600000 in
theorem End_spec {S : Nat → Prop} {w : World} {v : Value} {t : List Cell} {at_ : Nat} (ht : Seq cellE S w v t) (hat : at_ ≤ t.length) :
    Calls Tryz.prog 108 #[v, .int .i64 at_] w (RetV (.int .i64 (endZ t at_)) w) := by
  obtain ⟨ao, cap, rfl, h1, h2, h3, h4, h5⟩ := ht
  go_enter Tryz.func108, Tryz.ntmps108
  go_wp2_with fail
  go_loopw [5, 6] (fun o i wr => ∃ k n : Nat, k ≤ t.length ∧ i = .int .i64 k ∧ o = .int .i64 n ∧ 1 ≤ n ∧ n ≤ 1 + 6 * k ∧ Hid (endO t at_ = (endC n (t.drop k)).map (k + ·)) ∧ Below w.heap.size w wr) (fun _ i _ => t.length - (intOf i).toNat)
  case atStart => exact ⟨at_, 1, hat, rfl, rfl, Nat.le_refl _, by omega, Lib.hid rfl, Below.refl _ _⟩
  case round =>
    obtain ⟨k, n, hk, rfl, rfl, hn1, hn2, hinv, hbr⟩ := hrel
    by_cases hlt : k < t.length
    · obtain ⟨b, off, rfl, -, hb, c0, c1, c2, ok0, ok1, ok2⟩ := (h5.below hbr fun _ _ h => h).cell hlt
      have hst := endC_step (t := t) (o := n) hlt hn1
      have Hst := Lib.hid hst
      clear hst
      obtain ⟨c, hc⟩ : ∃ c, c = t[k] := ⟨_, rfl⟩
      rw [← hc] at c0 c1 c2 ok0 ok1 ok2 Hst
      clear hc
      have hkl : (k : Int) < (t.length : Int) := by omega
      have hk0 : (0 : Int) ≤ (k : Int) := by omega
      go_wp2_with fail
      refine (cell_spec (c := c) ok2).mono ?_
      rintro e w1 ⟨rfl, hb1⟩
      have hb1' := below_step hb1 hbr
      have e0 : w1.cell? ⟨b, off + k * 3, none⟩ = _ := (hb1.cell (p := ⟨b, off + k * 3, none⟩) hb).trans c0
      have e2 : w1.cell? ⟨b, off + k * 3 + 2, none⟩ = _ := (hb1.cell (p := ⟨b, off + k * 3 + 2, none⟩) hb).trans c2
      obtain ⟨m, rfl⟩ : ∃ m, n = m + 1 := ⟨n - 1, by omega⟩
      rw [Nat.add_sub_cancel] at Hst
      clear c0 c1 c2
      cases hok : cellOK c
      · have hz := Lib.hid (show endZ t at_ = -1 by unfold endZ; rw [hinv.out, Hst.out, hok]; rfl)
        go_wp2_with fail
        go_ret
        exact ⟨ret_int hz.out.symm, hb1'⟩
      · have hs := Lib.hid (show endO t at_ = (endC (m + arity c) (t.drop (k + 1))).map (k + 1 + ·) by rw [hinv.out, Hst.out, hok]; rfl)
        have hna := arity_le hok
        by_cases h3 : c.kind = 3
        · have hcn := cellOK_fun hok h3
          obtain ⟨a, ha⟩ : ∃ a : Nat, c.n = (a : Int) := ⟨c.n.toNat, by omega⟩
          have har : arity c = a := by unfold arity; rw [if_pos h3]; omega
          rw [har] at hs hna
          rw [ha] at e2
          rw [h3] at e0
          clear h3 hcn har ha
          have hov : (m : Int) + (a : Int) ≤ 9000000000000000000 := by omega
          by_cases hz : m + a = 0
          · have hz' : (m : Int) + (a : Int) = 0 := by omega
            have hr := Lib.hid (show endZ t at_ = (k : Int) + 1 by unfold endZ; rw [hs.out, hz, endC_zero]; rfl)
            clear hz
            go_wp2_with fail
            go_ret
            exact ⟨ret_int (by rw [hr.out]), hb1'⟩
          · have hz' : ¬ (m : Int) + (a : Int) = 0 := by omega
            go_wp2_with fail
            go_roundw
            case rel => exact ⟨k + 1, m + a, hlt, by go_num, by go_num, by omega, by omega, hs, hb1'⟩
            case measure => simp [intOf]; omega
        · have har : arity c = 0 := by unfold arity; rw [if_neg h3]
          rw [har, Nat.add_zero] at hs
          have h3' : (c.kind == 3) = false := by simpa using h3
          by_cases hz : m = 0
          · subst hz
            have hr := Lib.hid (show endZ t at_ = (k : Int) + 1 by unfold endZ; rw [hs.out, endC_zero]; rfl)
            go_wp2_with fail
            go_ret
            exact ⟨ret_int (by rw [hr.out]), hb1'⟩
          · have hz' : ¬ (m : Int) = 0 := by omega
            go_wp2_with fail
            go_roundw
            case rel => exact ⟨k + 1, m, hlt, by go_num, by go_num, by omega, by omega, hs, hb1'⟩
            case measure => simp [intOf]; omega
    · obtain rfl : k = t.length := by omega
      obtain ⟨m, rfl⟩ : ∃ m, n = m + 1 := ⟨n - 1, by omega⟩
      have hr := Lib.hid (show endZ t at_ = -1 by unfold endZ; rw [hinv.out, List.drop_length]; rfl)
      go_wp2_with fail
      go_ret
      exact ⟨ret_int hr.out.symm, hbr⟩
end Go.Proofs.YtaedgpcmkagpeaaGreat
