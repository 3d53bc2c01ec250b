/-
  Layer 2: bindings as lists; own, is, Place, In.
-/
import Derived.Test.YtgfiaddldmmjiaaTmE
namespace Go.Proofs.Ytgfiaddldmmjiaa
open Go Go.RowKit

/-- A binding. -/
structure Bnd where
  var : Int
  t : List Cell
def bindE : Elt Bnd where
  sz := 2
  pos := by decide
  R := fun S w c cs => ∃ v, cs = [.int .i64 c.var, v] ∧ IntOK c.var ∧ Seq cellE S w v c.t
  len := by rintro _ _ _ _ ⟨v, rfl, _⟩; rfl
  one := by
    rintro _ _ _ _ ⟨v, rfl, _, ⟨ao, cap, rfl, _⟩⟩ u hu
    simp at hu; rcases hu with rfl | rfl <;> rfl
  mono := by
    rintro S T w w' xs _ ⟨v, rfl, h0, h⟩ hT hw
    exact ⟨v, rfl, h0, h.mono hT hw⟩
theorem SeqAt.bnd2 {S : Nat → Prop} {w : World} {ao : Option Addr} {xs : List Bnd} (h : SeqAt bindE S w ao xs) {k : Nat} (hk : k < xs.length) :
    ∃ b off ta tc, ao = some ⟨b, off, none⟩ ∧ S b ∧ b < w.heap.size ∧ w.cell? ⟨b, off + k * 2, none⟩ = some (.int .i64 xs[k].var) ∧
      w.cell? ⟨b, off + k * 2 + 1, none⟩ = some (.slice ta xs[k].t.length tc) ∧ IntOK xs[k].var ∧ Seq cellE S w (.slice ta xs[k].t.length tc) xs[k].t := by
  obtain ⟨b, off, cs, h1, h2, h3, ⟨v, rfl, h0, hv⟩, h5⟩ := h k _ (List.getElem?_eq_getElem hk)
  obtain ⟨ta, tc, rfl, _⟩ := id hv
  exact ⟨b, off, ta, tc, h1, h2, h3, h5 0 (by decide), h5 1 (by decide), h0, hv⟩

/-- Is a term just a variable? -/
def isV (n : Int) (t : List Cell) : Bool := match t with
  | [c] => decide (c.kind = 1) && decide (c.n = n)
  | _ => false
theorem isV_one (n : Int) (c : Cell) : isV n [c] = (decide (c.kind = 1) && decide (c.n = n)) := rfl
theorem isV_not {n : Int} {t : List Cell} (h : t.length ≠ 1) : isV n t = false := by
  match t, h with
  | [], _ => rfl
  | [_], h => exact absurd rfl h
  | _ :: _ :: _, _ => rfl

set_option maxHeartbeats 1600000 in
theorem own_spec {S : Nat → Prop} {w : World} {v : Value} {t : List Cell} {n : Int} (ht : Seq cellE S w v t) : Calls Try.prog 37 #[.int .i64 n, v] w (QuietV (.bool (isV n t)) w) := by
  obtain ⟨ao, cap, rfl, -, -, -, -, h5⟩ := ht
  go_enter Try.func37, Try.ntmps37
  by_cases hl : t.length = 1
  · obtain ⟨c, rfl⟩ := List.length_eq_one_iff.1 hl
    obtain ⟨b, off, rfl, -, hb, c0, c1, c2, -⟩ := h5.cell (k := 0) (by simp)
    simp only [List.getElem_cons_zero, Nat.zero_mul, Nat.add_zero] at c0 c1 c2
    rw [isV_one]
    clear h5 hl
    by_cases h1 : c.kind = 1
    · by_cases h2 : c.n = n
      · go_wp2_with fail
        go_ret
        exact ⟨ret_bool (by simp [h1, h2]), Drew.refl _⟩
      · go_wp2_with fail
        go_ret
        exact ⟨ret_bool (by simp [h1, h2]), Drew.refl _⟩
    · go_wp2_with fail
      go_ret
      exact ⟨ret_bool (by simp [h1]), Drew.refl _⟩
  · rw [isV_not hl]
    have hl' : ¬ (t.length : Int) = 1 := by omega
    clear h5
    go_wp2_with fail
    go_ret
    exact ⟨ret_bool (by simp), Drew.refl _⟩

set_option maxHeartbeats 1600000 in
theorem is_spec {S : Nat → Prop} {w : World} {v : Value} {t : List Cell} {n : Int} (ht : Seq cellE S w v t) : Calls Try.prog 36 #[v, .int .i64 n] w (QuietV (.bool (isV n t)) w) := by
  obtain ⟨ao, cap, rfl, -, -, -, -, h5⟩ := ht
  go_enter Try.func36, Try.ntmps36
  by_cases hl : t.length = 1
  · obtain ⟨c, rfl⟩ := List.length_eq_one_iff.1 hl
    obtain ⟨b, off, rfl, -, hb, c0, c1, c2, -⟩ := h5.cell (k := 0) (by simp)
    simp only [List.getElem_cons_zero, Nat.zero_mul, Nat.add_zero] at c0 c1 c2
    rw [isV_one]
    clear h5 hl
    by_cases h1 : c.kind = 1
    · by_cases h2 : c.n = n
      · go_wp2_with fail
        go_ret
        exact ⟨ret_bool (by simp [h1, h2]), Drew.refl _⟩
      · go_wp2_with fail
        go_ret
        exact ⟨ret_bool (by simp [h1, h2]), Drew.refl _⟩
    · go_wp2_with fail
      go_ret
      exact ⟨ret_bool (by simp [h1]), Drew.refl _⟩
  · rw [isV_not hl]
    have hl' : ¬ (t.length : Int) = 1 := by omega
    clear h5
    go_wp2_with fail
    go_ret
    exact ⟨ret_bool (by simp), Drew.refl _⟩

/-- What a variable is bound to. -/
def bindS (s : List Bnd) (v : Int) : Option (List Cell) := (s.find? fun b => decide (b.var = v)).map (·.t)
/-- The place of its binding. -/
def placeS (s : List Bnd) (v : Int) : Int := match s.findIdx? (fun b => decide (b.var = v)) with
  | some k => (k : Int)
  | none => -1
theorem placeS_at {s : List Bnd} {v : Int} {k : Nat} (hk : k < s.length) (he : s[k].var = v) (hno : ∀ i (h : i < s.length), i < k → s[i].var ≠ v) : placeS s v = k ∧ bindS s v = some s[k].t := by
  constructor
  · unfold placeS
    rw [List.findIdx?_eq_some_iff_getElem.2 ⟨hk, by simpa using he, fun j hj => by simpa using hno j (by omega) hj⟩]
  · unfold bindS
    rw [List.find?_eq_some_iff_getElem.2 ⟨by simpa using he, k, hk, rfl, fun j hj => by simpa using hno j (by omega) hj⟩]; rfl
theorem placeS_none {s : List Bnd} {v : Int} (hno : ∀ i (h : i < s.length), s[i].var ≠ v) : placeS s v = -1 ∧ bindS s v = none := by
  have h : ∀ b ∈ s, ¬ (decide (b.var = v)) = true := fun b hb => by
    obtain ⟨i, hi, rfl⟩ := List.mem_iff_getElem.1 hb
    simpa using hno i hi
  constructor
  · unfold placeS
    rw [List.findIdx?_eq_none_iff.2 fun b hb => by simpa using h b hb]
  · unfold bindS
    rw [List.find?_eq_none.2 h]; rfl
theorem placeS_cases (s : List Bnd) (v : Int) : (placeS s v = -1 ∧ bindS s v = none) ∨ ∃ k, ∃ h : k < s.length, placeS s v = k ∧ s[k].var = v ∧ bindS s v = some s[k].t := by
  rcases hf : s.findIdx? (fun b => decide (b.var = v)) with _ | k
  · refine .inl (placeS_none fun i hi e => ?_)
    have := List.findIdx?_eq_none_iff.1 hf s[i] (List.getElem_mem hi)
    simp [e] at this
  · obtain ⟨h1, h2, h3⟩ := List.findIdx?_eq_some_iff_getElem.1 hf
    have he : s[k].var = v := by simpa using h2
    have := placeS_at h1 he (fun i hi hlt => by simpa using h3 i hlt)
    exact .inr ⟨k, h1, this.1, he, this.2⟩

theorem place_spec {S : Nat → Prop} {w : World} {v : Value} {s : List Bnd} {n : Int} (hs : Seq bindE S w v s) :
    Calls Try.prog 32 #[v, .int .i64 n] w (PureV (.int .i64 (placeS s n)) w) := by
  obtain ⟨ao, cap, rfl, h1, h2, h3, -, h5⟩ := hs
  go_enter Try.func32, Try.ntmps32
  go_wp2_with fail
  go_loopw [5] (fun i wr => ∃ k : Nat, k ≤ s.length ∧ i = .int .i64 k ∧ Hid (∀ i (h : i < s.length), i < k → s[i].var ≠ n) ∧ w = wr) (fun i _ => s.length - (intOf i).toNat)
  case atStart => exact ⟨0, Nat.zero_le _, rfl, Lib.hid (fun i _ h => absurd h (Nat.not_lt_zero _)), rfl⟩
  case round =>
    obtain ⟨k, hk, rfl, hno, rfl⟩ := hrel
    by_cases hlt : k < s.length
    · obtain ⟨b, off, ta, tc, rfl, -, -, c0, -, -, -⟩ := h5.bnd2 hlt
      have hy := Lib.hid (show s[k].var = n → placeS s n = k from fun h => (placeS_at hlt h hno.out).1)
      have hz := Lib.hid (show s[k].var ≠ n → ∀ i (h : i < s.length), i < k + 1 → s[i].var ≠ n from fun h i hi hlt => by
        by_cases e : i = k
        · subst e; exact h
        · exact hno.out i hi (by omega))
      obtain ⟨x, hx⟩ : ∃ x, x = s[k].var := ⟨_, rfl⟩
      rw [← hx] at c0 hy hz
      clear hx h5
      have hkl : (k : Int) < (s.length : Int) := by omega
      have hk0 : (0 : Int) ≤ (k : Int) := by omega
      by_cases he : x = n
      · have hy' := Lib.hid (hy.out he)
        have he' : (x == n) = true := by simp [he]
        clear hy hz he
        go_wp2_with fail
        go_ret
        exact ⟨ret_int hy'.out.symm, rfl⟩
      · have hz' := Lib.hid (hz.out he)
        have he' : (x == n) = false := by simp [he]
        clear hy hz he
        go_wp2_with fail
        go_roundw
        case rel => exact ⟨k + 1, hlt, by go_num, hz', trivial⟩
        case measure => simp [intOf]; omega
    · obtain rfl : k = s.length := by omega
      have hd := Lib.hid (show placeS s n = -1 from (placeS_none fun i hi => hno.out i hi hi).1)
      go_wp2_with fail
      go_ret
      exact ⟨ret_int hd.out.symm, rfl⟩

theorem InB_spec {S : Nat → Prop} {w : World} {v : Value} {l : List Int} {n : Int} (hl : Seq intE S w v l) :
    Calls Try.prog 29 #[v, .int .i64 n] w (PureV (.bool (decide (n ∈ l))) w) := by
  obtain ⟨ao, cap, rfl, h1, h2, h3, -, h5⟩ := hl
  go_enter Try.func29, Try.ntmps29
  go_wp2_with fail
  go_loopw [5] (fun i wr => ∃ k : Nat, k ≤ l.length ∧ i = .int .i64 k ∧ Hid (¬ n ∈ l.take k) ∧ w = wr) (fun i _ => l.length - (intOf i).toNat)
  case atStart => exact ⟨0, Nat.zero_le _, rfl, Lib.hid (by simp), rfl⟩
  case round =>
    obtain ⟨k, hk, rfl, hno, rfl⟩ := hrel
    by_cases hlt : k < l.length
    · obtain ⟨b, off, rfl, -, -, c0, -⟩ := h5.int hlt
      have hy := Lib.hid (show l[k] = n → decide (n ∈ l) = true from fun h => decide_eq_true (h ▸ List.getElem_mem hlt))
      have hz := Lib.hid (show l[k] ≠ n → ¬ n ∈ l.take (k + 1) from fun h => by
        rw [List.take_succ_eq_append_getElem hlt, List.mem_append]
        simp only [List.mem_singleton, not_or]
        exact ⟨hno.out, fun e => h e.symm⟩)
      obtain ⟨x, hx⟩ : ∃ x, x = l[k] := ⟨_, rfl⟩
      rw [← hx] at c0 hy hz
      clear hx h5
      have hkl : (k : Int) < (l.length : Int) := by omega
      have hk0 : (0 : Int) ≤ (k : Int) := by omega
      by_cases he : x = n
      · have hy' := Lib.hid (hy.out he)
        have he' : (x == n) = true := by simp [he]
        clear hy hz he
        go_wp2_with fail
        go_ret
        exact ⟨ret_bool hy'.out.symm, rfl⟩
      · have hz' := Lib.hid (hz.out he)
        have he' : (x == n) = false := by simp [he]
        clear hy hz he
        go_wp2_with fail
        go_roundw
        case rel => exact ⟨k + 1, hlt, by go_num, hz', trivial⟩
        case measure => simp [intOf]; omega
    · obtain rfl : k = l.length := by omega
      have hd := Lib.hid (show decide (n ∈ l) = false from decide_eq_false (by have := hno.out; rwa [List.take_length] at this))
      go_wp2_with fail
      go_ret
      exact ⟨ret_bool hd.out.symm, rfl⟩


def fewS (s : List Bnd) : Bool := s.all (fun b => decide (b.t.length ≤ 300)) && decide (s.length ≤ 30)
theorem few_spec {S : Nat → Prop} {w : World} {v : Value} {s : List Bnd} (hs : Seq bindE S w v s) :
    Calls Try.prog 13 #[v] w (PureV (.bool (fewS s)) w) := by
  obtain ⟨ao, cap, rfl, h1, h2, h3, -, h5⟩ := hs
  go_enter Try.func13, Try.ntmps13
  go_wp2_with fail
  go_loopw [3] (fun i wr => ∃ k : Nat, k ≤ s.length ∧ i = .int .i64 k ∧ Hid (∀ i (h : i < s.length), i < k → s[i].t.length ≤ 300) ∧ w = wr) (fun i _ => s.length - (intOf i).toNat)
  case atStart => exact ⟨0, Nat.zero_le _, rfl, Lib.hid (fun i _ h => absurd h (Nat.not_lt_zero _)), rfl⟩
  case round =>
    obtain ⟨k, hk, rfl, hno, rfl⟩ := hrel
    by_cases hlt : k < s.length
    · obtain ⟨b, off, ta, tc, rfl, -, -, -, c1, -, -⟩ := h5.bnd2 hlt
      have hy := Lib.hid (show ¬ s[k].t.length ≤ 300 → fewS s = false from fun h => by
        unfold fewS
        rw [Bool.and_eq_false_iff]
        refine .inl (List.all_eq_false.2 ⟨s[k], List.getElem_mem hlt, by simpa using h⟩))
      have hz := Lib.hid (show s[k].t.length ≤ 300 → ∀ i (h : i < s.length), i < k + 1 → s[i].t.length ≤ 300 from fun h i hi hlt => by
        by_cases e : i = k
        · subst e; exact h
        · exact hno.out i hi (by omega))
      obtain ⟨x, hx⟩ : ∃ x, x = s[k].t.length := ⟨_, rfl⟩
      rw [← hx] at c1 hy hz
      clear hx h5
      have hkl : (k : Int) < (s.length : Int) := by omega
      have hk0 : (0 : Int) ≤ (k : Int) := by omega
      by_cases he : x ≤ 300
      · have hz' := Lib.hid (hz.out he)
        have he' : ¬ (300 : Int) < x := by omega
        clear hy hz he
        go_wp2_with fail
        go_roundw
        case rel => exact ⟨k + 1, hlt, by go_num, hz', trivial⟩
        case measure => simp [intOf]; omega
      · have hy' := Lib.hid (hy.out he)
        have he' : (300 : Int) < x := by omega
        clear hy hz he
        go_wp2_with fail
        go_ret
        exact ⟨ret_bool hy'.out.symm, rfl⟩
    · obtain rfl : k = s.length := by omega
      have hd := Lib.hid (show fewS s = decide (s.length ≤ 30) from by
        unfold fewS
        rw [List.all_eq_true.2 fun b hb => by
          obtain ⟨i, hi, rfl⟩ := List.mem_iff_getElem.1 hb
          simpa using hno.out i hi hi, Bool.true_and])
      by_cases h30 : (s.length : Int) ≤ 30
      · go_wp2_with fail
        go_ret
        exact ⟨ret_bool (by rw [hd.out]; simp; omega), rfl⟩
      · go_wp2_with fail
        go_ret
        exact ⟨ret_bool (by rw [hd.out]; simp; omega), rfl⟩
end Go.Proofs.Ytgfiaddldmmjiaa
