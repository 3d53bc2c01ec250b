/-
  The program's terms: their order.
-/
import Derived.Test.YtaedgpcmkagpeaaGreatTmQ
namespace Go.Proofs.YtaedgpcmkagpeaaGreat
open Go Go.RowKit

theorem isNaN_spec {w : World} {a : Int} : Calls Tryz.prog 80 #[.int .i64 a] w (PureV (.bool false) w) := by
  go_enter Tryz.func80, Tryz.ntmps80
  go_wp2
  go_ret
  exact ⟨rfl, rfl⟩

theorem cmp_spec {w : World} {a b : Int} : Calls Tryz.prog 38 #[.int .i64 a, .int .i64 b] w (PureV (.int .i64 (cmpZ a b)) w) := by
  rcases Int.lt_trichotomy a b with h | h | h
  · have h' := Lib.hid (show cmpZ a b = -1 by unfold cmpZ; rw [if_pos h])
    go_enter Tryz.func38, Tryz.ntmps38
    go_wp2_with (go_at_call 80; refine isNaN_spec.mono ?_; rintro e w' ⟨rfl, rfl⟩)
    go_ret
    exact ⟨ret_int h'.out.symm, rfl⟩
  · subst h
    have h' := Lib.hid (show cmpZ a a = 0 by unfold cmpZ; rw [if_neg (by omega), if_neg (by omega)])
    go_enter Tryz.func38, Tryz.ntmps38
    go_wp2_with (go_at_call 80; refine isNaN_spec.mono ?_; rintro e w' ⟨rfl, rfl⟩)
    go_ret
    exact ⟨ret_int h'.out.symm, rfl⟩
  · have h1 : ¬ a < b := by omega
    have h' := Lib.hid (show cmpZ a b = 1 by unfold cmpZ; rw [if_neg h1, if_pos h])
    go_enter Tryz.func38, Tryz.ntmps38
    go_wp2_with (go_at_call 80; refine isNaN_spec.mono ?_; rintro e w' ⟨rfl, rfl⟩)
    go_ret
    exact ⟨ret_int h'.out.symm, rfl⟩

theorem isNaNS_spec {w : World} {a : ByteArray} : Calls Tryz.prog 102 #[.string a] w (PureV (.bool false) w) := by
  go_enter Tryz.func102, Tryz.ntmps102
  go_wp2
  go_ret
  exact ⟨rfl, rfl⟩

theorem cmpS_spec {w : World} {a b : ByteArray} : Calls Tryz.prog 75 #[.string a, .string b] w (PureV (.int .i64 (cmpS a b)) w) := by
  have hd := Lib.hid (show cmpS a b = if Op.bytesLess a.toList b.toList = true then -1 else if Op.bytesLess b.toList a.toList = true then 1 else 0 from rfl)
  have ht := @bytes_total a.toList b.toList
  cases h1 : Op.bytesLess a.toList b.toList
  · rw [h1] at hd ht
    cases h2 : Op.bytesLess b.toList a.toList
    · rw [h2] at hd
      have he := ht rfl h2
      have hq : (a.toList == b.toList) = true := by rw [he]; simp
      clear ht he
      go_enter Tryz.func75, Tryz.ntmps75
      go_wp2_with (go_at_call 102; refine isNaNS_spec.mono ?_; rintro e w' ⟨rfl, rfl⟩)
      go_ret
      exact ⟨ret_int (by rw [hd.out]; rfl), rfl⟩
    · rw [h2] at hd
      have hq : (a.toList == b.toList) = false := by
        rw [beq_eq_false_iff_ne]
        intro e
        rw [e, bytes_irr] at h2
        simp at h2
      clear ht
      go_enter Tryz.func75, Tryz.ntmps75
      go_wp2_with (go_at_call 102; refine isNaNS_spec.mono ?_; rintro e w' ⟨rfl, rfl⟩)
      go_ret
      exact ⟨ret_int (by rw [hd.out]; rfl), rfl⟩
  · rw [h1] at hd
    clear ht
    go_enter Tryz.func75, Tryz.ntmps75
    go_wp2_with (go_at_call 102; refine isNaNS_spec.mono ?_; rintro e w' ⟨rfl, rfl⟩)
    go_ret
    exact ⟨ret_int (by rw [hd.out]; rfl), rfl⟩

theorem or_spec {S : Nat → Prop} {w : World} {v : Value} {a b c r : Int} (hl : Seq intE S w v [a, b, c]) (Hr : Hid (r = if a ≠ 0 then a else if b ≠ 0 then b else c)) :
    Calls Tryz.prog 74 #[v] w (PureV (.int .i64 r) w) := by
  obtain ⟨ao, cap, rfl, h1, h2, h3, h4, h5⟩ := hl
  obtain ⟨bk, off, rfl, -, -, c0, -⟩ := h5.int (k := 0) (by simp)
  obtain ⟨_, _, he, -, -, c1, -⟩ := h5.int (k := 1) (by simp)
  simp only [Option.some.injEq, Addr.mk.injEq, and_true] at he
  obtain ⟨rfl, rfl⟩ := he
  obtain ⟨_, _, he, -, -, c2, -⟩ := h5.int (k := 2) (by simp)
  simp only [Option.some.injEq, Addr.mk.injEq, and_true] at he
  obtain ⟨rfl, rfl⟩ := he
  simp only [List.getElem_cons_zero, List.getElem_cons_succ, Nat.add_zero] at c0 c1 c2
  clear h5 h1 h3 h4
  go_enter Tryz.func74, Tryz.ntmps74
  go_wp2_with fail
  go_loop [8] (fun i => ∃ k : Nat, k ≤ 3 ∧ i = .int .i64 k ∧ Hid ((1 ≤ k → a = 0) ∧ (2 ≤ k → b = 0) ∧ (3 ≤ k → c = 0))) (fun i => 3 - (intOf i).toNat)
  case atStart => exact ⟨0, Nat.zero_le _, rfl, Lib.hid ⟨by omega, by omega, by omega⟩⟩
  case round =>
    obtain ⟨k, hk, rfl, hz⟩ := hrel
    rcases (show k = 0 ∨ k = 1 ∨ k = 2 ∨ k = 3 by omega) with rfl | rfl | rfl | rfl
    · by_cases h : a = 0
      · have hn := Lib.hid (show (1 ≤ 1 → a = 0) ∧ (2 ≤ 1 → b = 0) ∧ (3 ≤ 1 → c = 0) from ⟨fun _ => by first | exact h | exact hz.out.1 (by omega), fun _ => by first | exact h | exact hz.out.2.1 (by omega) | omega, fun _ => by first | exact h | omega⟩)
        have hb : (a == 0) = true := by simp [h]
        have hb2 : (a != 0) = false := by simp [h]
        clear h
        go_wp2_with fail
        go_round
        case rel => exact ⟨1, by omega, rfl, hn⟩
        case measure => simp [intOf]
      · have hb : (a == 0) = false := by simpa using h
        have hb2 : (a != 0) = true := by simpa using h
        have hr := Lib.hid (show r = a by
          rw [Hr.out]
          have := hz.out
          simp_all)
        clear h
        go_wp2_with fail
        go_ret
        exact ⟨ret_int hr.out.symm, rfl⟩
    · by_cases h : b = 0
      · have hn := Lib.hid (show (1 ≤ 2 → a = 0) ∧ (2 ≤ 2 → b = 0) ∧ (3 ≤ 2 → c = 0) from ⟨fun _ => by first | exact h | exact hz.out.1 (by omega), fun _ => by first | exact h | exact hz.out.2.1 (by omega) | omega, fun _ => by first | exact h | omega⟩)
        have hb : (b == 0) = true := by simp [h]
        have hb2 : (b != 0) = false := by simp [h]
        clear h
        go_wp2_with fail
        go_round
        case rel => exact ⟨2, by omega, rfl, hn⟩
        case measure => simp [intOf]
      · have hb : (b == 0) = false := by simpa using h
        have hb2 : (b != 0) = true := by simpa using h
        have hr := Lib.hid (show r = b by
          rw [Hr.out]
          have := hz.out
          simp_all)
        clear h
        go_wp2_with fail
        go_ret
        exact ⟨ret_int hr.out.symm, rfl⟩
    · by_cases h : c = 0
      · have hn := Lib.hid (show (1 ≤ 3 → a = 0) ∧ (2 ≤ 3 → b = 0) ∧ (3 ≤ 3 → c = 0) from ⟨fun _ => by first | exact h | exact hz.out.1 (by omega), fun _ => by first | exact h | exact hz.out.2.1 (by omega) | omega, fun _ => by first | exact h | omega⟩)
        have hb : (c == 0) = true := by simp [h]
        have hb2 : (c != 0) = false := by simp [h]
        clear h
        go_wp2_with fail
        go_round
        case rel => exact ⟨3, by omega, rfl, hn⟩
        case measure => simp [intOf]
      · have hb : (c == 0) = false := by simpa using h
        have hb2 : (c != 0) = true := by simpa using h
        have hr := Lib.hid (show r = c by
          rw [Hr.out]
          have := hz.out
          simp_all)
        clear h
        go_wp2_with fail
        go_ret
        exact ⟨ret_int hr.out.symm, rfl⟩
    · have hr := Lib.hid (show r = 0 by
        rw [Hr.out, hz.out.1 (by omega), hz.out.2.1 (by omega), hz.out.2.2 (by omega)]; rfl)
      go_wp2_with fail
      go_ret
      exact ⟨ret_int hr.out.symm, rfl⟩

theorem seq3 {w : World} {B : Nat} {a b c : Int} (ha : IntOK a) (hb : IntOK b) (hc : IntOK c) (h0 : w.cell? ⟨B, 0, none⟩ = some (.int .i64 a)) (h1 : w.cell? ⟨B, 1, none⟩ = some (.int .i64 b)) (h2 : w.cell? ⟨B, 2, none⟩ = some (.int .i64 c)) :
    Seq intE (fun _ => True) w (.slice (some ⟨B, 0, none⟩) 3 3) [a, b, c] := by
  refine ⟨_, 3, rfl, Nat.le_refl _, by simp [maxLen], by simp, by simp, ?_⟩
  intro k x hx
  have hk := (List.getElem?_eq_some_iff.1 hx).1
  have hlt := World.block_lt_of_cell? w _ h0
  simp only [List.length_cons, List.length_nil] at hk
  rcases (show k = 0 ∨ k = 1 ∨ k = 2 by omega) with rfl | rfl | rfl
  all_goals
    simp at hx; subst hx
    refine ⟨B, 0, _, rfl, trivial, hlt, ⟨rfl, by assumption⟩, ?_⟩
    intro j hj
    obtain rfl : j = 0 := by have : j < 1 := hj; omega
    simpa [intE]

theorem cmpZ_ok (a b : Int) : IntOK (cmpZ a b) := by rcases cmpZ_val a b with h | h | h <;> (rw [h]; exact ⟨by omega, by omega⟩)
theorem cmpS_ok (a b : ByteArray) : IntOK (cmpS a b) := by rcases cmpS_val a b with h | h | h <;> (rw [h]; exact ⟨by omega, by omega⟩)

set_option maxHeartbeats 4000000 in
set_option maxRecDepth 100000 in
theorem cmpC_spec {w : World} {x y : Cell} : Calls Tryz.prog 73 #[cellV x, cellV y] w (RetV (.int .i64 (cmpC x y)) w) := by
  have hor := Lib.hid (show cmpC x y = if cmpZ x.kind y.kind ≠ 0 then cmpZ x.kind y.kind else if cmpZ x.n y.n ≠ 0 then cmpZ x.n y.n else cmpS x.name y.name from rfl)
  have o1 := cmpZ_ok x.kind y.kind
  have o2 := cmpZ_ok x.n y.n
  have o3 := cmpS_ok x.name y.name
  have hb1 := fun (W : World) => cmp_spec (w := W) (a := x.kind) (b := y.kind)
  have hb2 := fun (W : World) => cmp_spec (w := W) (a := x.n) (b := y.n)
  have hb3 := fun (W : World) => cmpS_spec (w := W) (a := x.name) (b := y.name)
  obtain ⟨p, hp⟩ : ∃ p, p = cmpZ x.kind y.kind := ⟨_, rfl⟩
  obtain ⟨q, hq⟩ : ∃ q, q = cmpZ x.n y.n := ⟨_, rfl⟩
  obtain ⟨r, hr⟩ : ∃ r, r = cmpS x.name y.name := ⟨_, rfl⟩
  obtain ⟨z, hz⟩ : ∃ z, z = cmpC x y := ⟨_, rfl⟩
  rw [← hp] at hor o1 hb1
  rw [← hq] at hor o2 hb2
  rw [← hr] at hor o3 hb3
  rw [← hz] at hor ⊢
  have Hb1 := Lib.hid hb1
  have Hb2 := Lib.hid hb2
  have Hb3 := Lib.hid hb3
  clear hb1 hb2 hb3 hp hq hr hz
  unfold cellV
  go_enter Tryz.func73, Tryz.ntmps73
  go_wp2_with fail
  go_region_held3 (fun w' => w'.cell? ⟨w.heap.size, 0, none⟩ = some (.int .i64 x.kind) ∧ w'.cell? ⟨w.heap.size, 1, none⟩ = some (.string x.name) ∧ w'.cell? ⟨w.heap.size, 2, none⟩ = some (.int .i64 x.n) ∧
      w'.cell? ⟨w.heap.size + 1, 0, none⟩ = some (.int .i64 y.kind) ∧ w'.cell? ⟨w.heap.size + 1, 1, none⟩ = some (.string y.name) ∧ w'.cell? ⟨w.heap.size + 1, 2, none⟩ = some (.int .i64 y.n))
    (first | (go_simp; done) | go_keep)
    (first
      | (go_at_call_of 38 (Value.int IntKind.i64 x.kind); refine (Hb1.out _).mono ?_; rintro e w' ⟨rfl, rfl⟩)
      | (go_at_call_of 38 (Value.int IntKind.i64 x.n); refine (Hb2.out _).mono ?_; rintro e w' ⟨rfl, rfl⟩)
      | (go_at_call 75; refine (Hb3.out _).mono ?_; rintro e w' ⟨rfl, rfl⟩)
      | (go_at_call 74; refine (or_spec (seq3 o1 o2 o3 (by go_simp) (by go_simp) (by go_simp)) hor).mono ?_; rintro e w' ⟨rfl, rfl⟩))
  all_goals go_wp2_with fail
  all_goals go_ret
  all_goals exact ⟨rfl, Seq.way⟩
end Go.Proofs.YtaedgpcmkagpeaaGreat
