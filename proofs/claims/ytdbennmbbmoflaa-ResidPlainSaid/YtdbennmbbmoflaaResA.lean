/-
  Layer 18's reference, its small functions: what each call of them comes to, as plain functions on lists.
-/
import Derived.Test.YtdbennmbbmoflaaBase
import Derived.Deep.QuietTactic
import Derived.BigQuiet
namespace Go.Proofs.Ytdbennmbbmoflaa
open Go Go.RowKit

theorem infoInt : (Try.prog.info? 3).map (fun i => (i.zero, i.size, i.bytes)) = some (some (.int .i64 0), 1, 8) := by kernel_rfl

/-! ### in -/
def inB (l : List Int) (n : Int) : Bool := l.contains n
theorem in_spec {S : Nat → Prop} {w : World} {v : Value} {l : List Int} {n : Int} (hl : Seq intE S w v l) :
    Calls Try.prog 68 #[v, .int .i64 n] w (PureV (.bool (inB l n)) w) := by
  obtain ⟨ao, cap, rfl, h1, h2, h3, h4, h5⟩ := hl
  go_enter Try.func68, Try.ntmps68
  go_wp2
  go_loop [5] (fun i => ∃ k : Nat, k ≤ l.length ∧ i = .int .i64 k ∧ Hid (∀ x ∈ l.take k, ¬ x = n)) (fun i => l.length - (intOf i).toNat)
  case atStart => exact ⟨0, Nat.zero_le _, rfl, Lib.hid (by simp)⟩
  case round =>
    obtain ⟨k, hk, rfl, hno⟩ := hrel
    by_cases hlt : k < l.length
    · obtain ⟨b, off, rfl, hS, hb, hc, -⟩ := h5.int hlt
      clear h5
      by_cases he : l[k] = n
      · have hin := Lib.hid (show inB l n = true by simp [inB, ← he])
        go_wp2
        go_ret
        exact ⟨ret_bool hin.out.symm, rfl⟩
      · go_wp2
        go_round
        case rel =>
          refine ⟨k + 1, hlt, by go_num, ?_⟩
          intro x hx
          rw [List.take_succ_eq_append_getElem hlt] at hx
          rcases List.mem_append.1 hx with h | h
          · exact hno.out x h
          · simp at h; subst h; exact he
        case measure => simp [intOf]; omega
    · obtain rfl : k = l.length := by omega
      rw [List.take_length] at hno
      have hin := Lib.hid (show inB l n = false by
        rw [Bool.eq_false_iff]
        intro h
        exact hno.out n (by simpa [inB] using h) rfl)
      go_wp2
      go_ret
      exact ⟨ret_bool hin.out.symm, rfl⟩

/-! ### less -/
/-- The order of rows of numbers: below 0, 0, above 0. -/
def lessL : List Int → List Int → Int
  | [], [] => 0
  | [], _ :: _ => -1
  | _ :: _, [] => 1
  | a :: l, b :: m => if a < b then -1 else if b < a then 1 else lessL l m

theorem lessL_step : ∀ (k : Nat) (l m : List Int), (∀ j, j < k → l[j]? = m[j]?) → k ≤ l.length → k ≤ m.length → lessL l m = lessL (l.drop k) (m.drop k)
  | 0, l, m, _, _, _ => by simp
  | k + 1, [], m, _, h, _ => by simp at h
  | k + 1, _ :: _, [], _, _, h => by simp at h
  | k + 1, a :: l, b :: m, h, h1, h2 => by
    have h0 := h 0 (by omega)
    simp at h0; subst h0
    have := lessL_step k l m (fun j hj => by simpa using h (j + 1) (by omega)) (by simpa using h1) (by simpa using h2)
    simp only [lessL, Int.lt_irrefl, if_false, List.drop_succ_cons]
    exact this

theorem lessL_at {l m : List Int} {k : Nat} (h : ∀ j, j < k → l[j]? = m[j]?) (h1 : k < l.length) (h2 : k < m.length) :
    (l[k] < m[k] → lessL l m = -1) ∧ (m[k] < l[k] → lessL l m = 1) := by
  rw [lessL_step k l m h (by omega) (by omega), List.drop_eq_getElem_cons h1, List.drop_eq_getElem_cons h2]
  constructor
  · intro h3; simp [lessL, h3]
  · intro h3
    have : ¬ l[k] < m[k] := by omega
    simp [lessL, h3, this]

theorem lessL_end {l m : List Int} {k : Nat} (h : ∀ j, j < k → l[j]? = m[j]?) (h1 : k ≤ l.length) (h2 : k ≤ m.length) (h3 : k = l.length ∨ k = m.length) :
    lessL l m = if l.length < m.length then -1 else if m.length < l.length then 1 else 0 := by
  rw [lessL_step k l m h h1 h2]
  rcases Nat.lt_trichotomy l.length m.length with h4 | h4 | h4
  · obtain rfl : k = l.length := by omega
    rw [List.drop_length, if_pos h4, List.drop_eq_getElem_cons h4]
    simp [lessL]
  · obtain rfl : k = l.length := by omega
    rw [List.drop_length, h4, List.drop_length]
    simp [lessL]
  · obtain rfl : k = m.length := by omega
    rw [List.drop_length, if_neg (by omega), if_pos h4, List.drop_eq_getElem_cons h4]
    simp [lessL]

set_option maxHeartbeats 800000 in
theorem less_spec {S T : Nat → Prop} {w : World} {v u : Value} {l m : List Int} (hl : Seq intE S w v l) (hm : Seq intE T w u m) :
    Calls Try.prog 44 #[v, u] w (QuietV (.int .i64 (lessL l m)) w) := by
  obtain ⟨ao, cap, rfl, h1, h2, h3, h4, h5⟩ := hl
  obtain ⟨bo, cap', rfl, g1, g2, g3, g4, g5⟩ := hm
  go_enter Try.func44, Try.ntmps44
  go_wp2
  go_loopw [5] (fun i wr => ∃ k : Nat, k ≤ l.length ∧ k ≤ m.length ∧ i = .int .i64 k ∧ Hid (∀ j, j < k → l[j]? = m[j]?) ∧ Drew w wr) (fun i _ => l.length - (intOf i).toNat)
  case atStart => exact ⟨0, Nat.zero_le _, Nat.zero_le _, rfl, Lib.hid (by simp), Drew.refl _⟩
  case round =>
    obtain ⟨k, hk, hk', rfl, hno, hdr⟩ := hrel
    obtain ⟨n, rfl⟩ := hdr
    by_cases hlt : k < l.length
    · by_cases hlt' : k < m.length
      · obtain ⟨b, off, rfl, hS, hb, hc, -⟩ := h5.int hlt
        obtain ⟨b', off', rfl, hS', hb', hc', -⟩ := g5.int hlt'
        clear h5 g5
        have hat := lessL_at hno.out hlt hlt'
        rcases Int.lt_trichotomy l[k] m[k] with h | h | h
        · have hr := Lib.hid (hat.1 h)
          clear hat
          go_wp2
          go_quiet (fail)
          go_wp2
          go_ret
          exact ⟨ret_int hr.out.symm, (by repeat (first | exact Drew.of _ _ | refine Drew.drewN ?_ _))⟩
        · clear hat
          have hh := Lib.hid h
          have hn1 : ¬ l[k] < m[k] := by omega
          have hn2 : ¬ m[k] < l[k] := by omega
          clear h
          go_wp2
          go_quiet (fail)
          go_wp2
          go_quiet (fail)
          go_wp2
          go_roundw
          case rel =>
            refine ⟨k + 1, hlt, hlt', by go_num, ?_, (by repeat (first | exact Drew.of _ _ | refine Drew.drewN ?_ _))⟩
            intro j hj
            rcases Nat.lt_or_ge j k with h | h
            · exact hno.out j h
            · obtain rfl : j = k := by omega
              rw [List.getElem?_eq_getElem hlt, List.getElem?_eq_getElem hlt', hh.out]
          case measure => simp [intOf]; omega
        · have hr := Lib.hid (hat.2 h)
          clear hat
          have hn1 : ¬ l[k] < m[k] := by omega
          go_wp2
          go_quiet (fail)
          go_wp2
          go_quiet (fail)
          go_wp2
          go_ret
          exact ⟨ret_int hr.out.symm, (by repeat (first | exact Drew.of _ _ | refine Drew.drewN ?_ _))⟩
      · have he := Lib.hid (lessL_end hno.out hk hk' (by omega))
        have hn1 : ¬ l.length < m.length := by omega
        have hn2 : m.length < l.length := by omega
        go_wp2
        go_ret
        exact ⟨ret_int (by rw [he.out, if_neg hn1, if_pos hn2]), (by repeat (first | exact Drew.of _ _ | refine Drew.drewN ?_ _))⟩
    · have he := Lib.hid (lessL_end hno.out hk hk' (by omega))
      go_wp2
      all_goals go_ret
      · exact ⟨ret_int (by rw [he.out, if_pos (by assumption)]), (by repeat (first | exact Drew.of _ _ | refine Drew.drewN ?_ _))⟩
      · exact ⟨ret_int (by rw [he.out, if_neg (by assumption), if_neg (by omega)]), (by repeat (first | exact Drew.of _ _ | refine Drew.drewN ?_ _))⟩

theorem Ints_spec {S T : Nat → Prop} {w : World} {v u : Value} {l m : List Int} (hl : Seq intE S w v l) (hm : Seq intE T w u m) :
    Calls Try.prog 19 #[v, u] w (QuietV (.bool (lessL l m == 0)) w) := by
  go_enter Try.func19, Try.ntmps19
  go_wp2_with fail
  refine (less_spec hl hm).mono ?_
  rintro e _ ⟨rfl, n, rfl⟩
  go_wp2
  go_ret
  exact ⟨rfl, (by repeat (first | exact Drew.of _ _ | refine Drew.drewN ?_ _))⟩

/-! ### Order -/
def orderR (a b : Rule) : Int :=
  let n := if a.head < b.head then -1 else if b.head < a.head then 1 else 0
  if n = 0 then (let m := lessL a.pos b.pos; if m = 0 then lessL a.neg b.neg else m) else n

theorem lessL_one (a b : Int) : lessL [a] [b] = if a < b then -1 else if b < a then 1 else 0 := rfl

/-- A rule, as a value. -/
def RuleV (S : Nat → Prop) (w : World) (v : Value) (r : Rule) : Prop :=
  ∃ p n, v = .agg #[.int .i64 r.head, p, n] ∧ IntOK r.head ∧ Seq intE S w p r.pos ∧ Seq intE S w n r.neg

theorem seq_one_new {w : World} {n : Int} {B : Nat} (hn : IntOK n) (hc : w.cell? ⟨B, 0, none⟩ = some (.int .i64 n)) : Seq intE (fun _ => True) w (.slice (some ⟨B, 0, none⟩) 1 1) [n] := by
  refine ⟨_, 1, rfl, Nat.le_refl _, by simp [maxLen], by simp, by simp, ?_⟩
  intro k x hx
  obtain rfl : k = 0 := by have := (List.getElem?_eq_some_iff.1 hx).1; simp at this; omega
  simp at hx; subst hx
  refine ⟨B, 0, _, rfl, trivial, World.block_lt_of_cell? w _ hc, ⟨rfl, hn⟩, ?_⟩
  intro j hj
  obtain rfl : j = 0 := by have : j < 1 := hj; omega
  exact hc

set_option maxHeartbeats 800000 in
theorem Order_spec {S T : Nat → Prop} {w : World} {v u : Value} {a b : Rule} (ha : RuleV S w v a) (hb : RuleV T w u b) :
    Calls Try.prog 43 #[v, u] w (RetV (.int .i64 (orderR a b)) w) := by
  obtain ⟨p, n, rfl, h1, h2, h3⟩ := ha
  obtain ⟨q, m, rfl, g1, g2, g3⟩ := hb
  go_enter Try.func43, Try.ntmps43
  go_wp2_with fail
  refine (less_spec (seq_one_new h1 ?_) (seq_one_new g1 ?_)).mono ?_
  · go_simp
  · go_simp
  rintro e _ ⟨rfl, c, rfl⟩
  rw [lessL_one]
  obtain ⟨n0, hn0⟩ : ∃ n0, n0 = (if a.head < b.head then -1 else if b.head < a.head then 1 else 0 : Int) := ⟨_, rfl⟩
  rw [← hn0]
  have ho := Lib.hid (show orderR a b = if n0 = 0 then (if lessL a.pos b.pos = 0 then lessL a.neg b.neg else lessL a.pos b.pos) else n0 by rw [hn0]; rfl)
  clear hn0
  by_cases hz : n0 = 0
  · go_wp2_with fail
    refine (less_spec (h2.to) (g2.to)).mono ?_
    rintro e _ ⟨rfl, c', rfl⟩
    by_cases hy : lessL a.pos b.pos = 0
    · go_wp2_with fail
      refine (less_spec (h3.to) (g3.to)).mono ?_
      rintro e _ ⟨rfl, c'', rfl⟩
      go_wp2
      go_ret
      exact ⟨ret_int (by rw [ho.out, if_pos hz, if_pos hy]), Seq.way⟩
    · go_wp2
      go_ret
      exact ⟨ret_int (by rw [ho.out, if_pos hz, if_neg hy]), Seq.way⟩
  · go_wp2
    go_ret
    exact ⟨ret_int (by rw [ho.out, if_neg hz]), Seq.way⟩
end Go.Proofs.Ytdbennmbbmoflaa
