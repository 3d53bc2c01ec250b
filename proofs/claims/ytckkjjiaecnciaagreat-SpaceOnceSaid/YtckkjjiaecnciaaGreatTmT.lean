/-
  The program's terms: their order.
  The program: the order of terms; facts.
  The program: the search in rows of terms; Has.
-/
import Derived.Test.YtckkjjiaecnciaaGreatTmQ
import Derived.Deep.DeepCutAuto
namespace Go.Proofs.YtckkjjiaecnciaaGreat
section
open Go Go.RowKit

theorem isNaN_spec {w : World} {a : Int} : Calls Tryz.prog 102 #[.int .i64 a] w (PureV (.bool false) w) := by
  go_enter Tryz.func102, Tryz.ntmps102
  go_wp2
  go_ret
  exact ⟨rfl, rfl⟩

theorem cmp_spec {w : World} {a b : Int} : Calls Tryz.prog 70 #[.int .i64 a, .int .i64 b] w (PureV (.int .i64 (cmpZ a b)) w) := by
  rcases Int.lt_trichotomy a b with h | h | h
  · have h' := Lib.hid (show cmpZ a b = -1 by unfold cmpZ; rw [if_pos h])
    go_enter Tryz.func70, Tryz.ntmps70
    go_wp2_with (go_at_call 102; refine isNaN_spec.mono ?_; rintro e w' ⟨rfl, rfl⟩)
    go_ret
    exact ⟨ret_int h'.out.symm, rfl⟩
  · subst h
    have h' := Lib.hid (show cmpZ a a = 0 by unfold cmpZ; rw [if_neg (by omega), if_neg (by omega)])
    go_enter Tryz.func70, Tryz.ntmps70
    go_wp2_with (go_at_call 102; refine isNaN_spec.mono ?_; rintro e w' ⟨rfl, rfl⟩)
    go_ret
    exact ⟨ret_int h'.out.symm, rfl⟩
  · have h1 : ¬ a < b := by omega
    have h' := Lib.hid (show cmpZ a b = 1 by unfold cmpZ; rw [if_neg h1, if_pos h])
    go_enter Tryz.func70, Tryz.ntmps70
    go_wp2_with (go_at_call 102; refine isNaN_spec.mono ?_; rintro e w' ⟨rfl, rfl⟩)
    go_ret
    exact ⟨ret_int h'.out.symm, rfl⟩

theorem isNaNS_spec {w : World} {a : ByteArray} : Calls Tryz.prog 103 #[.string a] w (PureV (.bool false) w) := by
  go_enter Tryz.func103, Tryz.ntmps103
  go_wp2
  go_ret
  exact ⟨rfl, rfl⟩

theorem cmpS_spec {w : World} {a b : ByteArray} : Calls Tryz.prog 71 #[.string a, .string b] w (PureV (.int .i64 (cmpS a b)) w) := by
  have hd := Lib.hid (show cmpS a b = if Op.bytesLess a.toList b.toList = true then -1 else if Op.bytesLess b.toList a.toList = true then 1 else 0 from rfl)
  have ht := @bytes_total a.toList b.toList
  cases h1 : Op.bytesLess a.toList b.toList
  · rw [h1] at hd ht
    cases h2 : Op.bytesLess b.toList a.toList
    · rw [h2] at hd
      have he := ht rfl h2
      have hq : (a.toList == b.toList) = true := by rw [he]; simp
      clear ht he
      go_enter Tryz.func71, Tryz.ntmps71
      go_wp2_with (go_at_call 103; refine isNaNS_spec.mono ?_; rintro e w' ⟨rfl, rfl⟩)
      go_ret
      exact ⟨ret_int (by rw [hd.out]; rfl), rfl⟩
    · rw [h2] at hd
      have hq : (a.toList == b.toList) = false := by
        rw [beq_eq_false_iff_ne]
        intro e
        rw [e, bytes_irr] at h2
        simp at h2
      clear ht
      go_enter Tryz.func71, Tryz.ntmps71
      go_wp2_with (go_at_call 103; refine isNaNS_spec.mono ?_; rintro e w' ⟨rfl, rfl⟩)
      go_ret
      exact ⟨ret_int (by rw [hd.out]; rfl), rfl⟩
  · rw [h1] at hd
    clear ht
    go_enter Tryz.func71, Tryz.ntmps71
    go_wp2_with (go_at_call 103; refine isNaNS_spec.mono ?_; rintro e w' ⟨rfl, rfl⟩)
    go_ret
    exact ⟨ret_int (by rw [hd.out]; rfl), rfl⟩

theorem or_spec {S : Nat → Prop} {w : World} {v : Value} {a b c r : Int} (hl : Seq intE S w v [a, b, c]) (Hr : Hid (r = if a ≠ 0 then a else if b ≠ 0 then b else c)) :
    Calls Tryz.prog 69 #[v] w (PureV (.int .i64 r) w) := by
  obtain ⟨ao, cap, rfl, h1, h2, h3, h4, h5⟩ := hl
  obtain ⟨bk, off, rfl, -, -, c0, -⟩ := h5.int (k := 0) (by simp)
  obtain ⟨_, _, he, -, -, c1, -⟩ := h5.int (k := 1) (by simp)
  simp only [Option.some.injEq, Addr.mk.injEq, and_true] at he
  obtain ⟨rfl, rfl⟩ := he
  obtain ⟨_, _, he, -, -, c2, -⟩ := h5.int (k := 2) (by simp)
  simp only [Option.some.injEq, Addr.mk.injEq, and_true] at he
  obtain ⟨rfl, rfl⟩ := he
  simp only [List.getElem_cons_zero, List.getElem_cons_succ, Nat.add_zero] at c0 c1 c2
  clear h5 h1 h3 h4
  go_enter Tryz.func69, Tryz.ntmps69
  go_wp2_with fail
  go_loop [8] (fun i => ∃ k : Nat, k ≤ 3 ∧ i = .int .i64 k ∧ Hid ((1 ≤ k → a = 0) ∧ (2 ≤ k → b = 0) ∧ (3 ≤ k → c = 0))) (fun i => 3 - (intOf i).toNat)
  case atStart => exact ⟨0, Nat.zero_le _, rfl, Lib.hid ⟨by omega, by omega, by omega⟩⟩
  case round =>
    obtain ⟨k, hk, rfl, hz⟩ := hrel
    rcases (show k = 0 ∨ k = 1 ∨ k = 2 ∨ k = 3 by omega) with rfl | rfl | rfl | rfl
    · by_cases h : a = 0
      · have hn := Lib.hid (show (1 ≤ 1 → a = 0) ∧ (2 ≤ 1 → b = 0) ∧ (3 ≤ 1 → c = 0) from ⟨fun _ => by first | exact h | exact hz.out.1 (by omega), fun _ => by first | exact h | exact hz.out.2.1 (by omega) | omega, fun _ => by first | exact h | omega⟩)
        have hb : (a == 0) = true := by simp [h]
        have hb2 : (a != 0) = false := by simp [h]
        clear h
        go_wp2_with fail
        go_round
        case rel => exact ⟨1, by omega, rfl, hn⟩
        case measure => simp [intOf]
      · have hb : (a == 0) = false := by simpa using h
        have hb2 : (a != 0) = true := by simpa using h
        have hr := Lib.hid (show r = a by
          rw [Hr.out]
          have := hz.out
          simp_all)
        clear h
        go_wp2_with fail
        go_ret
        exact ⟨ret_int hr.out.symm, rfl⟩
    · by_cases h : b = 0
      · have hn := Lib.hid (show (1 ≤ 2 → a = 0) ∧ (2 ≤ 2 → b = 0) ∧ (3 ≤ 2 → c = 0) from ⟨fun _ => by first | exact h | exact hz.out.1 (by omega), fun _ => by first | exact h | exact hz.out.2.1 (by omega) | omega, fun _ => by first | exact h | omega⟩)
        have hb : (b == 0) = true := by simp [h]
        have hb2 : (b != 0) = false := by simp [h]
        clear h
        go_wp2_with fail
        go_round
        case rel => exact ⟨2, by omega, rfl, hn⟩
        case measure => simp [intOf]
      · have hb : (b == 0) = false := by simpa using h
        have hb2 : (b != 0) = true := by simpa using h
        have hr := Lib.hid (show r = b by
          rw [Hr.out]
          have := hz.out
          simp_all)
        clear h
        go_wp2_with fail
        go_ret
        exact ⟨ret_int hr.out.symm, rfl⟩
    · by_cases h : c = 0
      · have hn := Lib.hid (show (1 ≤ 3 → a = 0) ∧ (2 ≤ 3 → b = 0) ∧ (3 ≤ 3 → c = 0) from ⟨fun _ => by first | exact h | exact hz.out.1 (by omega), fun _ => by first | exact h | exact hz.out.2.1 (by omega) | omega, fun _ => by first | exact h | omega⟩)
        have hb : (c == 0) = true := by simp [h]
        have hb2 : (c != 0) = false := by simp [h]
        clear h
        go_wp2_with fail
        go_round
        case rel => exact ⟨3, by omega, rfl, hn⟩
        case measure => simp [intOf]
      · have hb : (c == 0) = false := by simpa using h
        have hb2 : (c != 0) = true := by simpa using h
        have hr := Lib.hid (show r = c by
          rw [Hr.out]
          have := hz.out
          simp_all)
        clear h
        go_wp2_with fail
        go_ret
        exact ⟨ret_int hr.out.symm, rfl⟩
    · have hr := Lib.hid (show r = 0 by
        rw [Hr.out, hz.out.1 (by omega), hz.out.2.1 (by omega), hz.out.2.2 (by omega)]; rfl)
      go_wp2_with fail
      go_ret
      exact ⟨ret_int hr.out.symm, rfl⟩

theorem seq3 {w : World} {B : Nat} {a b c : Int} (ha : IntOK a) (hb : IntOK b) (hc : IntOK c) (h0 : w.cell? ⟨B, 0, none⟩ = some (.int .i64 a)) (h1 : w.cell? ⟨B, 1, none⟩ = some (.int .i64 b)) (h2 : w.cell? ⟨B, 2, none⟩ = some (.int .i64 c)) :
    Seq intE (fun _ => True) w (.slice (some ⟨B, 0, none⟩) 3 3) [a, b, c] := by
  refine ⟨_, 3, rfl, Nat.le_refl _, by simp [maxLen], by simp, by simp, ?_⟩
  intro k x hx
  have hk := (List.getElem?_eq_some_iff.1 hx).1
  have hlt := World.block_lt_of_cell? w _ h0
  simp only [List.length_cons, List.length_nil] at hk
  rcases (show k = 0 ∨ k = 1 ∨ k = 2 by omega) with rfl | rfl | rfl
  all_goals
    simp at hx; subst hx
    refine ⟨B, 0, _, rfl, trivial, hlt, ⟨rfl, by assumption⟩, ?_⟩
    intro j hj
    obtain rfl : j = 0 := by have : j < 1 := hj; omega
    simpa [intE]

theorem cmpZ_ok (a b : Int) : IntOK (cmpZ a b) := by rcases cmpZ_val a b with h | h | h <;> (rw [h]; exact ⟨by omega, by omega⟩)
theorem cmpS_ok (a b : ByteArray) : IntOK (cmpS a b) := by rcases cmpS_val a b with h | h | h <;> (rw [h]; exact ⟨by omega, by omega⟩)

set_option maxHeartbeats 4000000 in
set_option maxRecDepth 100000 in
theorem cmpC_spec {w : World} {x y : Cell} : Calls Tryz.prog 68 #[cellV x, cellV y] w (RetV (.int .i64 (cmpC x y)) w) := by
  have hor := Lib.hid (show cmpC x y = if cmpZ x.kind y.kind ≠ 0 then cmpZ x.kind y.kind else if cmpZ x.n y.n ≠ 0 then cmpZ x.n y.n else cmpS x.name y.name from rfl)
  have o1 := cmpZ_ok x.kind y.kind
  have o2 := cmpZ_ok x.n y.n
  have o3 := cmpS_ok x.name y.name
  have hb1 := fun (W : World) => cmp_spec (w := W) (a := x.kind) (b := y.kind)
  have hb2 := fun (W : World) => cmp_spec (w := W) (a := x.n) (b := y.n)
  have hb3 := fun (W : World) => cmpS_spec (w := W) (a := x.name) (b := y.name)
  obtain ⟨p, hp⟩ : ∃ p, p = cmpZ x.kind y.kind := ⟨_, rfl⟩
  obtain ⟨q, hq⟩ : ∃ q, q = cmpZ x.n y.n := ⟨_, rfl⟩
  obtain ⟨r, hr⟩ : ∃ r, r = cmpS x.name y.name := ⟨_, rfl⟩
  obtain ⟨z, hz⟩ : ∃ z, z = cmpC x y := ⟨_, rfl⟩
  rw [← hp] at hor o1 hb1
  rw [← hq] at hor o2 hb2
  rw [← hr] at hor o3 hb3
  rw [← hz] at hor ⊢
  have Hb1 := Lib.hid hb1
  have Hb2 := Lib.hid hb2
  have Hb3 := Lib.hid hb3
  clear hb1 hb2 hb3 hp hq hr hz
  unfold cellV
  go_enter Tryz.func68, Tryz.ntmps68
  go_wp2_with fail
  go_region_held3 (fun w' => w'.cell? ⟨w.heap.size, 0, none⟩ = some (.int .i64 x.kind) ∧ w'.cell? ⟨w.heap.size, 1, none⟩ = some (.string x.name) ∧ w'.cell? ⟨w.heap.size, 2, none⟩ = some (.int .i64 x.n) ∧
      w'.cell? ⟨w.heap.size + 1, 0, none⟩ = some (.int .i64 y.kind) ∧ w'.cell? ⟨w.heap.size + 1, 1, none⟩ = some (.string y.name) ∧ w'.cell? ⟨w.heap.size + 1, 2, none⟩ = some (.int .i64 y.n))
    (first | (go_simp; done) | go_keep)
    (first
      | (go_at_call_of 70 (Value.int IntKind.i64 x.kind); refine (Hb1.out _).mono ?_; rintro e w' ⟨rfl, rfl⟩)
      | (go_at_call_of 70 (Value.int IntKind.i64 x.n); refine (Hb2.out _).mono ?_; rintro e w' ⟨rfl, rfl⟩)
      | (go_at_call 71; refine (Hb3.out _).mono ?_; rintro e w' ⟨rfl, rfl⟩)
      | (go_at_call 69; refine (or_spec (seq3 o1 o2 o3 (by go_simp) (by go_simp) (by go_simp)) hor).mono ?_; rintro e w' ⟨rfl, rfl⟩))
  all_goals go_wp2_with fail
  all_goals go_ret
  all_goals exact ⟨rfl, Seq.way⟩
end
section
open Go Go.RowKit

theorem cmpT_step {a b : List Cell} {k : Nat} (hk : k < a.length) (hk' : k < b.length) : cmpT (a.drop k) (b.drop k) = if cmpC a[k] b[k] ≠ 0 then cmpC a[k] b[k] else cmpT (a.drop (k + 1)) (b.drop (k + 1)) := by
  rw [List.drop_eq_getElem_cons hk, List.drop_eq_getElem_cons hk']; rfl
theorem cmpT_end1 {a b : List Cell} {k : Nat} (hk : k < a.length) (hb : b.length ≤ k) : cmpT (a.drop k) (b.drop k) = 1 := by
  rw [List.drop_eq_getElem_cons hk, List.drop_eq_nil_of_le hb]; rfl
theorem cmpT_end2 {a b : List Cell} : a.length < b.length → cmpT (a.drop a.length) (b.drop a.length) = -1 := fun h => by
  rw [List.drop_eq_nil_of_le (Nat.le_refl _), List.drop_eq_getElem_cons h]; rfl
theorem cmpT_end3 {a b : List Cell} : ¬ a.length < b.length → cmpT (a.drop a.length) (b.drop a.length) = 0 := fun h => by
  rw [List.drop_eq_nil_of_le (Nat.le_refl _), List.drop_eq_nil_of_le (by omega)]; rfl

set_option maxHeartbeats 1600000 in
set_option maxRecDepth 100000 in
theorem compareF_spec {S T : Nat → Prop} {w : World} {v u : Value} {a b : List Cell} (ha : Seq cellE S w v a) (hb : Seq cellE T w u b) :
    Calls Tryz.prog 67 #[v, u, .func (.func 68) #[] #[]] w (RetV (.int .i64 (cmpT a b)) w) := by
  obtain ⟨aa, ac, rfl, -, -, hal, -, ha5⟩ := ha
  obtain ⟨ba, bc, rfl, -, -, hbl, -, hb5⟩ := hb
  go_enter Tryz.func67, Tryz.ntmps67
  go_wp2_with fail
  go_loopw [13] (fun i wr => ∃ k : Nat, k ≤ a.length ∧ k ≤ b.length ∧ i = .int .i64 k ∧ Hid (cmpT a b = cmpT (a.drop k) (b.drop k)) ∧ Below w.heap.size w wr) (fun i _ => a.length - (intOf i).toNat)
  case atStart => exact ⟨0, Nat.zero_le _, Nat.zero_le _, rfl, Lib.hid rfl, Below.refl _ _⟩
  case round =>
    obtain ⟨k, hk, hk', rfl, hno, hbr⟩ := hrel
    have hzr := hbr.size
    by_cases hka : k < a.length
    · have hkl : (k : Int) < (a.length : Int) := by omega
      have hk0 : (0 : Int) ≤ (k : Int) := by omega
      obtain ⟨b1, o1, rfl, -, l1, c0, c1, c2, -⟩ := (ha5.below hbr fun _ _ h => h).cell hka
      by_cases hkb : k < b.length
      · obtain ⟨b2, o2, rfl, -, l2, d0, d1, d2, -⟩ := (hb5.below hbr fun _ _ h => h).cell hkb
        have hst := Lib.hid (cmpT_step hka hkb)
        clear ha5 hb5
        obtain ⟨x, hxe⟩ : ∃ x, x = a[k] := ⟨_, rfl⟩
        obtain ⟨y, hye⟩ : ∃ y, y = b[k] := ⟨_, rfl⟩
        rw [← hxe] at c0 c1 c2 hst
        rw [← hye] at d0 d1 d2 hst
        clear hxe hye
        have hkm : (k : Int) < (b.length : Int) := by omega
        go_wp2_with fail
        refine (cmpC_spec (x := x) (y := y)).mono ?_
        rintro e w1 ⟨rfl, hb1⟩
        have hb1' : Below w.heap.size w w1 := below_step (below_step hb1 (Seq.way : Below wr.heap.size wr _)) hbr
        by_cases he : cmpC x y = 0
        · have hx' := Lib.hid (show cmpT a b = cmpT (a.drop (k + 1)) (b.drop (k + 1)) by rw [hno.out, hst.out, if_neg (by simp [he])])
          have he' : (cmpC x y != 0) = false := by simp [he]
          rw [he]
          clear hst hno he he'
          go_wp2_with fail
          go_roundw
          case rel => exact ⟨k + 1, hka, hkb, by go_num, hx', hb1'⟩
          case measure => simp [intOf]; omega
        · have hz := Lib.hid (show cmpT a b = cmpC x y by rw [hno.out, hst.out, if_pos he])
          have he' : (cmpC x y != 0) = true := by simp [he]
          clear hst hno
          go_wp2_with fail
          go_ret
          exact ⟨ret_int hz.out.symm, hb1'⟩
      · have hz := Lib.hid (show cmpT a b = 1 by rw [hno.out, cmpT_end1 hka (by omega)])
        have hbk : (b.length : Int) ≤ (k : Int) := by omega
        go_wp2_with fail
        go_ret
        exact ⟨ret_int hz.out.symm, (below_step (Seq.way : Below wr.heap.size wr _) hbr)⟩
    · obtain rfl : k = a.length := by omega
      by_cases hl : a.length < b.length
      · have hz := Lib.hid (show cmpT a b = -1 by rw [hno.out, cmpT_end2 hl])
        go_wp2_with fail
        go_ret
        exact ⟨ret_int hz.out.symm, hbr⟩
      · have hz := Lib.hid (show cmpT a b = 0 by rw [hno.out, cmpT_end3 hl])
        go_wp2_with fail
        go_ret
        exact ⟨ret_int hz.out.symm, hbr⟩

theorem CompareP_spec {S T : Nat → Prop} {w : World} {v u : Value} {a b : List Cell} (ha : Seq cellE S w v a) (hb : Seq cellE T w u b) :
    Calls Tryz.prog 42 #[v, u] w (RetV (.int .i64 (cmpT a b)) w) := by
  have Ha := Lib.hid ha
  have Hb := Lib.hid hb
  obtain ⟨aa, ac, rfl, -⟩ := ha
  obtain ⟨ba, bc, rfl, -⟩ := hb
  go_enter Tryz.func42, Tryz.ntmps42
  go_wp2_with fail
  refine (compareF_spec Ha.out Hb.out).mono ?_
  rintro e w1 ⟨rfl, hb1⟩
  go_wp2_with fail
  go_ret
  exact ⟨rfl, hb1⟩


end
section
open Go Go.RowKit

def SortT (l : List (List Cell)) : Prop := l.Pairwise fun a b => cmpT a b < 0
def insAtT (x : List Cell) : List (List Cell) → Nat
  | [] => 0
  | y :: l => if cmpT y x < 0 then insAtT x l + 1 else 0
theorem insAtT_le (x : List Cell) : ∀ l, insAtT x l ≤ l.length
  | [] => Nat.le_refl _
  | y :: l => by
    have := insAtT_le x l
    unfold insAtT
    split
    · simp only [List.length_cons]; omega
    · exact Nat.zero_le _
theorem insAtT_lt (x : List Cell) : ∀ (l : List (List Cell)) (t : Nat) (_ : t < insAtT x l) (ht : t < l.length), cmpT l[t] x < 0
  | [], t, _, h => by simp at h
  | y :: l, t, h, ht => by
    unfold insAtT at h
    split at h
    · rename_i hy
      cases t with
      | zero => exact hy
      | succ t => exact insAtT_lt x l t (by omega) (by simpa using ht)
    · omega
theorem insAtT_at (x : List Cell) : ∀ (l : List (List Cell)) (h : insAtT x l < l.length), ¬ cmpT l[insAtT x l] x < 0
  | [], h => by simp at h
  | y :: l, h => by
    by_cases hy : cmpT y x < 0
    · have e : insAtT x (y :: l) = insAtT x l + 1 := by rw [insAtT, if_pos hy]
      simp only [e, List.getElem_cons_succ]
      exact insAtT_at x l (by rw [e] at h; simpa using h)
    · have e : insAtT x (y :: l) = 0 := by rw [insAtT, if_neg hy]
      simp only [e, List.getElem_cons_zero]
      exact hy
theorem cmpT_self (a : List Cell) : cmpT a a = 0 := cmpT_zero.2 rfl
theorem cmpT_asymm {a b : List Cell} (h : cmpT a b < 0) : ¬ cmpT b a < 0 := by rw [cmpT_neg a b]; omega
theorem sortT_lt {l : List (List Cell)} {x : List Cell} (hs : SortT l) {i j : Nat} (hij : i ≤ j) (hj : j < l.length) (h : cmpT l[j] x < 0) : cmpT (l[i]'(by omega)) x < 0 := by
  rcases Nat.lt_or_eq_of_le hij with h1 | h1
  · exact cmpT_trans (List.pairwise_iff_getElem.1 hs i j (by omega) hj h1) h
  · subst h1; exact h
theorem insAtT_eq {l : List (List Cell)} {x : List Cell} {i : Nat} (hi : i ≤ l.length) (h1 : ∀ t (ht : t < l.length), t < i → cmpT l[t] x < 0) (h2 : ∀ t (ht : t < l.length), i ≤ t → ¬ cmpT l[t] x < 0) : i = insAtT x l := by
  have hle := insAtT_le x l
  rcases Nat.lt_trichotomy i (insAtT x l) with h | h | h
  · exact absurd (insAtT_lt x l i h (by omega)) (h2 i (by omega) (Nat.le_refl _))
  · exact h
  · exact absurd (h1 _ (by omega) h) (insAtT_at x l (by omega))
theorem mem_insAtT {l : List (List Cell)} {x : List Cell} (hs : SortT l) : x ∈ l ↔ ∃ h : insAtT x l < l.length, cmpT l[insAtT x l] x = 0 := by
  constructor
  · intro h
    obtain ⟨j, hj, rfl⟩ := List.mem_iff_getElem.1 h
    have : j = insAtT l[j] l := by
      refine insAtT_eq (by omega) (fun t ht h => List.pairwise_iff_getElem.1 hs t j ht hj h) fun t ht h => ?_
      rcases Nat.lt_or_eq_of_le h with h1 | h1
      · exact cmpT_asymm (List.pairwise_iff_getElem.1 hs j t hj ht h1)
      · subst h1; rw [cmpT_self]; omega
    refine ⟨by omega, ?_⟩
    have h2 : l[insAtT l[j] l]'(by omega) = l[j] := by congr 1; exact this.symm
    rw [h2]; exact cmpT_self _
  · rintro ⟨h, h0⟩
    exact (cmpT_zero.1 h0) ▸ List.getElem_mem h




end
end Go.Proofs.YtckkjjiaecnciaaGreat
