/-
  Layer 18, the program: the order of rules, and the search in it.
-/
import Derived.Test.YtdbennmbbmoflaaPrG
import Derived.Test.YtdbennmbbmoflaaResM
namespace Go.Proofs.Ytdbennmbbmoflaa
open Go Go.RowKit

def cmpI (a b : Int) : Int := if a < b then -1 else if b < a then 1 else 0

theorem isNaN_spec {w : World} {a : Int} : Calls Try.prog 75 #[.int .i64 a] w (PureV (.bool false) w) := by
  go_enter Try.func75, Try.ntmps75
  go_wp2
  go_ret
  exact ⟨rfl, rfl⟩

theorem cmp_spec {w : World} {a b : Int} : Calls Try.prog 64 #[.int .i64 a, .int .i64 b] w (PureV (.int .i64 (cmpI a b)) w) := by
  rcases Int.lt_trichotomy a b with h | h | h
  · have h' := Lib.hid (show cmpI a b = -1 by unfold cmpI; rw [if_pos h])
    go_enter Try.func64, Try.ntmps64
    go_wp2_with (go_at_call 75; refine isNaN_spec.mono ?_; rintro e w' ⟨rfl, rfl⟩)
    go_ret
    exact ⟨ret_int h'.out.symm, rfl⟩
  · subst h
    have h' := Lib.hid (show cmpI a a = 0 by unfold cmpI; rw [if_neg (by omega), if_neg (by omega)])
    go_enter Try.func64, Try.ntmps64
    go_wp2_with (go_at_call 75; refine isNaN_spec.mono ?_; rintro e w' ⟨rfl, rfl⟩)
    go_ret
    exact ⟨ret_int h'.out.symm, rfl⟩
  · have h1 : ¬ a < b := by omega
    have h' := Lib.hid (show cmpI a b = 1 by unfold cmpI; rw [if_neg h1, if_pos h])
    go_enter Try.func64, Try.ntmps64
    go_wp2_with (go_at_call 75; refine isNaN_spec.mono ?_; rintro e w' ⟨rfl, rfl⟩)
    go_ret
    exact ⟨ret_int h'.out.symm, rfl⟩

set_option maxHeartbeats 800000 in
theorem compareL_spec {S T : Nat → Prop} {w : World} {v u : Value} {l m : List Int} (hl : Seq intE S w v l) (hm : Seq intE T w u m) :
    Calls Try.prog 65 #[v, u] w (PureV (.int .i64 (lessL l m)) w) := by
  obtain ⟨ao, cap, rfl, h1, h2, h3, h4, h5⟩ := hl
  obtain ⟨bo, cap', rfl, g1, g2, g3, g4, g5⟩ := hm
  go_enter Try.func65, Try.ntmps65
  go_wp2_with fail
  go_loop [11] (fun i => ∃ k : Nat, k ≤ l.length ∧ k ≤ m.length ∧ i = .int .i64 k ∧ Hid (∀ j, j < k → l[j]? = m[j]?)) (fun i => l.length - (intOf i).toNat)
  case atStart => exact ⟨0, Nat.zero_le _, Nat.zero_le _, rfl, Lib.hid (by simp)⟩
  case round =>
    obtain ⟨k, hk, hk', rfl, hno⟩ := hrel
    by_cases hlt : k < l.length
    · by_cases hlt' : k < m.length
      · obtain ⟨b, off, rfl, hS, hb, hc, -⟩ := h5.int hlt
        obtain ⟨b', off', rfl, hS', hb', hc', -⟩ := g5.int hlt'
        clear h5 g5
        have hat := lessL_at hno.out hlt hlt'
        obtain ⟨x, hx⟩ : ∃ x, x = l[k] := ⟨_, rfl⟩
        obtain ⟨y, hy⟩ : ∃ y, y = m[k] := ⟨_, rfl⟩
        have Hx := Lib.hid hx
        have Hy := Lib.hid hy
        rw [← hx] at hc hat
        rw [← hy] at hc' hat
        clear hx hy
        obtain ⟨c, hc0⟩ : ∃ c, c = cmpI x y := ⟨_, rfl⟩
        have Hc := Lib.hid hc0
        have hspec := Lib.hid (cmp_spec (w := w) (a := x) (b := y))
        rw [← hc0] at hspec
        clear hc0
        by_cases hz : c = 0
        · subst hz
          have hxy : x = y := by
            have := Hc.out
            unfold cmpI at this
            split at this
            · omega
            · split at this <;> omega
          have hnx := Lib.hid (show ∀ j, j < k + 1 → l[j]? = m[j]? by
            intro j hj
            rcases Nat.lt_or_ge j k with h | h
            · exact hno.out j h
            · obtain rfl : j = k := by omega
              rw [List.getElem?_eq_getElem hlt, List.getElem?_eq_getElem hlt', ← Hx.out, ← Hy.out, hxy])
          clear hxy hat
          go_wp2_with (go_at_call 64; refine hspec.out.mono ?_; rintro e w' ⟨rfl, rfl⟩)
          go_round
          case rel => exact ⟨k + 1, hlt, hlt', by go_num, hnx⟩
          case measure => simp [intOf]; omega
        · have hr := Lib.hid (show lessL l m = c by
            have := Hc.out
            unfold cmpI at this
            split at this
            · rename_i h; rw [hat.1 h, this]
            · split at this
              · rename_i h; rw [hat.2 h, this]
              · exact absurd this hz)
          have hzb : (c == 0) = false := by simpa using hz
          have hzb2 : (c != 0) = true := by simpa using hz
          clear hat
          go_wp2_with (go_at_call 64; refine hspec.out.mono ?_; rintro e w' ⟨rfl, rfl⟩)
          go_ret
          exact ⟨ret_int hr.out.symm, rfl⟩
      · have he := Lib.hid (lessL_end hno.out hk hk' (by omega))
        have hn1 : ¬ l.length < m.length := by omega
        have hn2 : m.length < l.length := by omega
        have hn3 : m.length ≤ k := by omega
        obtain ⟨b, off, rfl, hS, hb, hc, -⟩ := h5.int hlt
        clear h5
        go_wp2_with fail
        go_ret
        exact ⟨ret_int (by rw [he.out, if_neg hn1, if_pos hn2]), rfl⟩
    · have he := Lib.hid (lessL_end hno.out hk hk' (by omega))
      by_cases hn1 : l.length < m.length
      · go_wp2_with fail
        go_ret
        exact ⟨ret_int (by rw [he.out, if_pos hn1]), rfl⟩
      · go_wp2_with fail
        go_ret
        exact ⟨ret_int (by rw [he.out, if_neg hn1, if_neg (by omega)]), rfl⟩

theorem or_spec {S : Nat → Prop} {w : World} {v : Value} {a b c r : Int} (hl : Seq intE S w v [a, b, c]) (Hr : Hid (r = if a ≠ 0 then a else if b ≠ 0 then b else c)) :
    Calls Try.prog 63 #[v] w (PureV (.int .i64 r) w) := by
  obtain ⟨ao, cap, rfl, h1, h2, h3, h4, h5⟩ := hl
  obtain ⟨bk, off, rfl, -, -, c0, -⟩ := h5.int (k := 0) (by simp)
  obtain ⟨_, _, he, -, -, c1, -⟩ := h5.int (k := 1) (by simp)
  simp only [Option.some.injEq, Addr.mk.injEq, and_true] at he
  obtain ⟨rfl, rfl⟩ := he
  obtain ⟨_, _, he, -, -, c2, -⟩ := h5.int (k := 2) (by simp)
  simp only [Option.some.injEq, Addr.mk.injEq, and_true] at he
  obtain ⟨rfl, rfl⟩ := he
  simp only [List.getElem_cons_zero, List.getElem_cons_succ, Nat.add_zero] at c0 c1 c2
  clear h5 h1 h3 h4
  go_enter Try.func63, Try.ntmps63
  go_wp2_with fail
  go_loop [8] (fun i => ∃ k : Nat, k ≤ 3 ∧ i = .int .i64 k ∧ Hid ((1 ≤ k → a = 0) ∧ (2 ≤ k → b = 0) ∧ (3 ≤ k → c = 0))) (fun i => 3 - (intOf i).toNat)
  case atStart => exact ⟨0, Nat.zero_le _, rfl, Lib.hid ⟨by omega, by omega, by omega⟩⟩
  case round =>
    obtain ⟨k, hk, rfl, hz⟩ := hrel
    rcases (show k = 0 ∨ k = 1 ∨ k = 2 ∨ k = 3 by omega) with rfl | rfl | rfl | rfl
    · by_cases h : a = 0
      · have hn := Lib.hid (show (1 ≤ 1 → a = 0) ∧ (2 ≤ 1 → b = 0) ∧ (3 ≤ 1 → c = 0) from ⟨fun _ => by first | exact h | exact hz.out.1 (by omega), fun _ => by first | exact h | exact hz.out.2.1 (by omega) | omega, fun _ => by first | exact h | omega⟩)
        have hb : (a == 0) = true := by simp [h]
        have hb2 : (a != 0) = false := by simp [h]
        clear h
        go_wp2_with fail
        go_round
        case rel => exact ⟨1, by omega, rfl, hn⟩
        case measure => simp [intOf]
      · have hb : (a == 0) = false := by simpa using h
        have hb2 : (a != 0) = true := by simpa using h
        have hr := Lib.hid (show r = a by
          rw [Hr.out]
          have := hz.out
          simp_all)
        clear h
        go_wp2_with fail
        go_ret
        exact ⟨ret_int hr.out.symm, rfl⟩
    · by_cases h : b = 0
      · have hn := Lib.hid (show (1 ≤ 2 → a = 0) ∧ (2 ≤ 2 → b = 0) ∧ (3 ≤ 2 → c = 0) from ⟨fun _ => by first | exact h | exact hz.out.1 (by omega), fun _ => by first | exact h | exact hz.out.2.1 (by omega) | omega, fun _ => by first | exact h | omega⟩)
        have hb : (b == 0) = true := by simp [h]
        have hb2 : (b != 0) = false := by simp [h]
        clear h
        go_wp2_with fail
        go_round
        case rel => exact ⟨2, by omega, rfl, hn⟩
        case measure => simp [intOf]
      · have hb : (b == 0) = false := by simpa using h
        have hb2 : (b != 0) = true := by simpa using h
        have hr := Lib.hid (show r = b by
          rw [Hr.out]
          have := hz.out
          simp_all)
        clear h
        go_wp2_with fail
        go_ret
        exact ⟨ret_int hr.out.symm, rfl⟩
    · by_cases h : c = 0
      · have hn := Lib.hid (show (1 ≤ 3 → a = 0) ∧ (2 ≤ 3 → b = 0) ∧ (3 ≤ 3 → c = 0) from ⟨fun _ => by first | exact h | exact hz.out.1 (by omega), fun _ => by first | exact h | exact hz.out.2.1 (by omega) | omega, fun _ => by first | exact h | omega⟩)
        have hb : (c == 0) = true := by simp [h]
        have hb2 : (c != 0) = false := by simp [h]
        clear h
        go_wp2_with fail
        go_round
        case rel => exact ⟨3, by omega, rfl, hn⟩
        case measure => simp [intOf]
      · have hb : (c == 0) = false := by simpa using h
        have hb2 : (c != 0) = true := by simpa using h
        have hr := Lib.hid (show r = c by
          rw [Hr.out]
          have := hz.out
          simp_all)
        clear h
        go_wp2_with fail
        go_ret
        exact ⟨ret_int hr.out.symm, rfl⟩
    · have hr := Lib.hid (show r = 0 by
        rw [Hr.out, hz.out.1 (by omega), hz.out.2.1 (by omega), hz.out.2.2 (by omega)]; rfl)
      go_wp2_with fail
      go_ret
      exact ⟨ret_int hr.out.symm, rfl⟩

theorem orderR_or (a b : Rule) : orderR a b = if cmpI a.head b.head ≠ 0 then cmpI a.head b.head else if lessL a.pos b.pos ≠ 0 then lessL a.pos b.pos else lessL a.neg b.neg := by
  unfold orderR cmpI
  simp only
  by_cases h1 : a.head < b.head
  · simp [h1]
  · by_cases h2 : b.head < a.head
    · simp [h1, h2]
    · simp only [h1, h2, if_false, if_true, ne_eq, not_true]
      split <;> simp_all

theorem seq3 {w : World} {B : Nat} {a b c : Int} (ha : IntOK a) (hb : IntOK b) (hc : IntOK c) (h0 : w.cell? ⟨B, 0, none⟩ = some (.int .i64 a)) (h1 : w.cell? ⟨B, 1, none⟩ = some (.int .i64 b)) (h2 : w.cell? ⟨B, 2, none⟩ = some (.int .i64 c)) :
    Seq intE (fun _ => True) w (.slice (some ⟨B, 0, none⟩) 3 3) [a, b, c] := by
  refine ⟨_, 3, rfl, Nat.le_refl _, by simp [maxLen], by simp, by simp, ?_⟩
  intro k x hx
  have hk := (List.getElem?_eq_some_iff.1 hx).1
  have hlt := World.block_lt_of_cell? w _ h0
  simp only [List.length_cons, List.length_nil] at hk
  rcases (show k = 0 ∨ k = 1 ∨ k = 2 by omega) with rfl | rfl | rfl
  all_goals
    simp at hx; subst hx
    refine ⟨B, 0, _, rfl, trivial, hlt, ⟨rfl, by assumption⟩, ?_⟩
    intro j hj
    obtain rfl : j = 0 := by have : j < 1 := hj; omega
    simpa [intE]
theorem lessL_ok (l m : List Int) : IntOK (lessL l m) := by
  have : ∀ l m : List Int, lessL l m = -1 ∨ lessL l m = 0 ∨ lessL l m = 1 := by
    intro l
    induction l with
    | nil => intro m; cases m <;> simp [lessL]
    | cons a l ih =>
      intro m
      cases m with
      | nil => simp [lessL]
      | cons b m =>
        unfold lessL
        split
        · exact .inl rfl
        · split
          · exact .inr (.inr rfl)
          · exact ih m
  rcases this l m with h | h | h <;> (rw [h]; exact ⟨by omega, by omega⟩)
theorem cmpI_ok (a b : Int) : IntOK (cmpI a b) := by
  unfold cmpI; split
  · exact ⟨by omega, by omega⟩
  · split <;> exact ⟨by omega, by omega⟩

set_option maxHeartbeats 4000000 in
theorem orderP_spec {S T : Nat → Prop} {w : World} {v u : Value} {a b : Rule} (ha : RuleV S w v a) (hb : RuleV T w u b) :
    Calls Try.prog 40 #[v, u] w (RetV (.int .i64 (orderR a b)) w) := by
  obtain ⟨p, n, rfl, h1, h2, h3⟩ := ha
  obtain ⟨q, m, rfl, g1, g2, g3⟩ := hb
  obtain ⟨x, hx⟩ : ∃ x, x = lessL a.pos b.pos := ⟨_, rfl⟩
  obtain ⟨y, hy⟩ : ∃ y, y = lessL a.neg b.neg := ⟨_, rfl⟩
  obtain ⟨z, hz⟩ : ∃ z, z = cmpI a.head b.head := ⟨_, rfl⟩
  have hor := Lib.hid (orderR_or a b)
  have hxo := lessL_ok a.pos b.pos
  have hyo := lessL_ok a.neg b.neg
  have hzo := cmpI_ok a.head b.head
  rw [← hx, ← hy, ← hz] at hor
  rw [← hx] at hxo
  rw [← hy] at hyo
  rw [← hz] at hzo
  have hb2 := fun (W : World) (hW : Below w.heap.size w W) => compareL_spec (h2.at hW) (g2.at hW)
  have hb3 := fun (W : World) (hW : Below w.heap.size w W) => compareL_spec (h3.at hW) (g3.at hW)
  have hb1 := fun (W : World) => cmp_spec (w := W) (a := a.head) (b := b.head)
  rw [← hx] at hb2
  rw [← hy] at hb3
  rw [← hz] at hb1
  obtain ⟨pa, pc, rfl, -⟩ := h2
  obtain ⟨na, nc, rfl, -⟩ := h3
  obtain ⟨qa, qc, rfl, -⟩ := g2
  obtain ⟨ma, mc, rfl, -⟩ := g3
  have Hb1 := Lib.hid hb1
  have Hb2 := Lib.hid hb2
  have Hb3 := Lib.hid hb3
  clear hb1 hb2 hb3 hx hy hz
  go_enter Try.func40, Try.ntmps40
  go_wp2_with fail
  go_region_held3 (fun w' => w'.cell? ⟨w.heap.size, 0, none⟩ = some (.int .i64 a.head) ∧ w'.cell? ⟨w.heap.size, 1, none⟩ = some (.slice pa a.pos.length pc) ∧ w'.cell? ⟨w.heap.size, 2, none⟩ = some (.slice na a.neg.length nc) ∧
      w'.cell? ⟨w.heap.size + 1, 0, none⟩ = some (.int .i64 b.head) ∧ w'.cell? ⟨w.heap.size + 1, 1, none⟩ = some (.slice qa b.pos.length qc) ∧ w'.cell? ⟨w.heap.size + 1, 2, none⟩ = some (.slice ma b.neg.length mc))
    (first | (go_simp; done) | go_keep)
    (first
      | (go_at_call 64; refine (Hb1.out _).mono ?_; rintro e w' ⟨rfl, rfl⟩)
      | (go_at_call_of 65 (Value.slice pa a.pos.length pc); refine (Hb2.out _ Seq.way).mono ?_; rintro e w' ⟨rfl, rfl⟩)
      | (go_at_call_of 65 (Value.slice na a.neg.length nc); refine (Hb3.out _ Seq.way).mono ?_; rintro e w' ⟨rfl, rfl⟩)
      | (go_at_call 63; refine (or_spec (seq3 hzo hxo hyo (by go_simp) (by go_simp) (by go_simp)) hor).mono ?_; rintro e w' ⟨rfl, rfl⟩))
  all_goals go_wp2_with fail
  all_goals go_ret
  all_goals exact ⟨rfl, Seq.way⟩
end Go.Proofs.Ytdbennmbbmoflaa
