/-
  Layer 18, the program: the kinds of simplifications.
-/
import Derived.Test.YtdbennmbbmoflaaPrB
import Derived.Deep.RegionHeld3
import Derived.Laws.EntriesVeiled
namespace Go.Proofs.Ytdbennmbbmoflaa
open Go Go.RowKit

/-! ### The rows of a state, as functions -/
theorem rowF_spec {w : World} {va vb vf vr vo : Value} :
    Calls Try.prog 57 #[.agg #[va, vb, vf, vr, vo]] w fun e w' => e = .returned vf ∧ w' = w.alloc (.cells #[va, vb, vf, vr, vo] 57) := by
  go_enter Try.func57, Try.ntmps57
  go_wp2
  go_ret
  exact ⟨rfl, rfl⟩
theorem rowH_spec {w : World} {va vb vf vr vo : Value} :
    Calls Try.prog 58 #[.agg #[va, vb, vf, vr, vo]] w fun e w' => e = .returned vr ∧ w' = w.alloc (.cells #[va, vb, vf, vr, vo] 57) := by
  go_enter Try.func58, Try.ntmps58
  go_wp2
  go_ret
  exact ⟨rfl, rfl⟩
theorem rowO_spec {w : World} {va vb vf vr vo : Value} :
    Calls Try.prog 59 #[.agg #[va, vb, vf, vr, vo]] w fun e w' => e = .returned vo ∧ w' = w.alloc (.cells #[va, vb, vf, vr, vo] 57) := by
  go_enter Try.func59, Try.ntmps59
  go_wp2
  go_ret
  exact ⟨rfl, rfl⟩

/-- 'is(row, want)', as a value: two boxes. -/
def isFn (p q : Nat) : Value := .func (.func 56) #[] #[.pointer (some ⟨p, 0, none⟩), .pointer (some ⟨q, 0, none⟩)]
structure IsBox (w : World) (p q fn : Nat) (want : Bool) : Prop where
  p : Row 86 w p [.func (.func fn) #[] #[]]
  q : Row 4 w q [.bool want]
theorem IsBox.at {w w' : World} {p q fn : Nat} {want : Bool} (h : IsBox w p q fn want) (hb : Below w.heap.size w w') : IsBox w' p q fn want :=
  ⟨h.p.below hb h.p.lt, h.q.below hb h.q.lt⟩

set_option maxHeartbeats 1600000 in
theorem isF_spec {w : World} {va vb vr vo : Value} {p q B O n c : Nat} {want x : Bool} {a : Int} (hI : IsBox w p q 57 want) (ha : 0 ≤ a) (ha2 : a < (n : Int)) (hB : B < w.heap.size) (hc : w.cell? ⟨B, O + a.toNat, none⟩ = some (.bool x)) :
    Calls Try.prog 56 #[.agg #[va, vb, .slice (some ⟨B, O, none⟩) n c, vr, vo], .int .i64 a, .pointer (some ⟨p, 0, none⟩), .pointer (some ⟨q, 0, none⟩)] w (RetV (.bool (x == want)) w) := by
  have c0 := hI.p.cell (j := 0) (by simp)
  have c1 := hI.q.cell (j := 0) (by simp)
  simp only [List.getElem_cons_zero] at c0 c1
  have hp := hI.p.lt
  have hq := hI.q.lt
  go_enter Try.func56, Try.ntmps56
  go_wp2_with fail
  go_region_held3 (fun w' => w'.cell? ⟨p, 0, none⟩ = some (.func (.func 57) #[] #[]) ∧ w'.cell? ⟨q, 0, none⟩ = some (.bool want) ∧ w'.cell? ⟨B, O + a.toNat, none⟩ = some (.bool x) ∧ w'.cell? ⟨w.heap.size, 0, none⟩ = some (va) ∧ w'.cell? ⟨w.heap.size, 1, none⟩ = some (vb) ∧ w'.cell? ⟨w.heap.size, 2, none⟩ = some (.slice (some ⟨B, O, none⟩) n c) ∧ w'.cell? ⟨w.heap.size, 3, none⟩ = some (vr) ∧ w'.cell? ⟨w.heap.size, 4, none⟩ = some (vo))
    (first | (go_simp; done) | go_keep)
    ((go_at_call 57; refine (rowF_spec).mono ?_; rintro e w' ⟨rfl, rfl⟩))
  all_goals go_wp2_with fail
  all_goals go_ret
  all_goals exact ⟨by cases x <;> cases want <;> rfl, Seq.way⟩
set_option maxHeartbeats 1600000 in
theorem isH_spec {w : World} {va vb vf vo : Value} {p q B O n c : Nat} {want x : Bool} {a : Int} (hI : IsBox w p q 58 want) (ha : 0 ≤ a) (ha2 : a < (n : Int)) (hB : B < w.heap.size) (hc : w.cell? ⟨B, O + a.toNat, none⟩ = some (.bool x)) :
    Calls Try.prog 56 #[.agg #[va, vb, vf, .slice (some ⟨B, O, none⟩) n c, vo], .int .i64 a, .pointer (some ⟨p, 0, none⟩), .pointer (some ⟨q, 0, none⟩)] w (RetV (.bool (x == want)) w) := by
  have c0 := hI.p.cell (j := 0) (by simp)
  have c1 := hI.q.cell (j := 0) (by simp)
  simp only [List.getElem_cons_zero] at c0 c1
  have hp := hI.p.lt
  have hq := hI.q.lt
  go_enter Try.func56, Try.ntmps56
  go_wp2_with fail
  go_region_held3 (fun w' => w'.cell? ⟨p, 0, none⟩ = some (.func (.func 58) #[] #[]) ∧ w'.cell? ⟨q, 0, none⟩ = some (.bool want) ∧ w'.cell? ⟨B, O + a.toNat, none⟩ = some (.bool x) ∧ w'.cell? ⟨w.heap.size, 0, none⟩ = some (va) ∧ w'.cell? ⟨w.heap.size, 1, none⟩ = some (vb) ∧ w'.cell? ⟨w.heap.size, 2, none⟩ = some (vf) ∧ w'.cell? ⟨w.heap.size, 3, none⟩ = some (.slice (some ⟨B, O, none⟩) n c) ∧ w'.cell? ⟨w.heap.size, 4, none⟩ = some (vo))
    (first | (go_simp; done) | go_keep)
    ((go_at_call 58; refine (rowH_spec).mono ?_; rintro e w' ⟨rfl, rfl⟩))
  all_goals go_wp2_with fail
  all_goals go_ret
  all_goals exact ⟨by cases x <;> cases want <;> rfl, Seq.way⟩
set_option maxHeartbeats 1600000 in
theorem isO_spec {w : World} {va vb vf vr : Value} {p q B O n c : Nat} {want x : Bool} {a : Int} (hI : IsBox w p q 59 want) (ha : 0 ≤ a) (ha2 : a < (n : Int)) (hB : B < w.heap.size) (hc : w.cell? ⟨B, O + a.toNat, none⟩ = some (.bool x)) :
    Calls Try.prog 56 #[.agg #[va, vb, vf, vr, .slice (some ⟨B, O, none⟩) n c], .int .i64 a, .pointer (some ⟨p, 0, none⟩), .pointer (some ⟨q, 0, none⟩)] w (RetV (.bool (x == want)) w) := by
  have c0 := hI.p.cell (j := 0) (by simp)
  have c1 := hI.q.cell (j := 0) (by simp)
  simp only [List.getElem_cons_zero] at c0 c1
  have hp := hI.p.lt
  have hq := hI.q.lt
  go_enter Try.func56, Try.ntmps56
  go_wp2_with fail
  go_region_held3 (fun w' => w'.cell? ⟨p, 0, none⟩ = some (.func (.func 59) #[] #[]) ∧ w'.cell? ⟨q, 0, none⟩ = some (.bool want) ∧ w'.cell? ⟨B, O + a.toNat, none⟩ = some (.bool x) ∧ w'.cell? ⟨w.heap.size, 0, none⟩ = some (va) ∧ w'.cell? ⟨w.heap.size, 1, none⟩ = some (vb) ∧ w'.cell? ⟨w.heap.size, 2, none⟩ = some (vf) ∧ w'.cell? ⟨w.heap.size, 3, none⟩ = some (vr) ∧ w'.cell? ⟨w.heap.size, 4, none⟩ = some (.slice (some ⟨B, O, none⟩) n c))
    (first | (go_simp; done) | go_keep)
    ((go_at_call 59; refine (rowO_spec).mono ?_; rintro e w' ⟨rfl, rfl⟩))
  all_goals go_wp2_with fail
  all_goals go_ret
  all_goals exact ⟨by cases x <;> cases want <;> rfl, Seq.way⟩

/-! ### The kinds -/
def kFn (j : Nat) : Nat := if j = 0 ∨ j = 3 then 58 else if j = 4 then 59 else 57
def kWant (j : Nat) : Bool := decide (j = 1 ∨ j = 2)
def kNeg (j : Nat) : Bool := decide (j = 0 ∨ j = 1)
def kGoes (j : Nat) : Bool := decide (j = 1 ∨ j = 3 ∨ j = 4)
def kindV (p q j : Nat) : Value := .agg #[isFn p q, .bool (kNeg j), .bool (kGoes j)]
theorem getElem_eq_getD {l : List Bool} {i : Nat} (h : i < l.length) : l[i] = l.getD i false := by
  rw [List.getD_eq_getElem?_getD, List.getElem?_eq_getElem h]; rfl

theorem kis_spec {S : Nat → Prop} {w : World} {sv : Value} {g : Prog} {p q j : Nat} {a : Int} (hj : j < 5) (hI : IsBox w p q (kFn j) (kWant j)) (hs : StateV S w sv g) (ha : 0 ≤ a) (ha2 : a < g.atoms.length) :
    Calls Try.prog 56 #[sv, .int .i64 a, .pointer (some ⟨p, 0, none⟩), .pointer (some ⟨q, 0, none⟩)] w (RetV (.bool (isGone g (followsL g) ((j : Int) + 1) a)) w) := by
  obtain ⟨va, vb, vf, vr, vo, rfl, -, hf, hr, ho⟩ := hs
  have hac : ((a.toNat : Nat) : Int) = a := by omega
  have lf : (factsL g).length = g.atoms.length := by simp [factsL]
  have lh : (hasL g).length = g.atoms.length := by simp [hasL]
  have lo : (followsL g).length = g.atoms.length := followsL_len
  have ef : ∀ h : a.toNat < (factsL g).length, (factsL g)[a.toNat] = factB g a := by intro h; simp [factsL, hac]
  have eh : ∀ h : a.toNat < (hasL g).length, (hasL g)[a.toNat] = rulesB g a := by intro h; simp [hasL, hac]
  have key : ∀ x : Bool, (x == false) = !x := by intro x; cases x <;> rfl
  have key2 : ∀ x : Bool, (x == true) = x := by intro x; cases x <;> rfl
  obtain ⟨fa, fc, rfl, -, -, -, -, hf⟩ := hf
  obtain ⟨ra, rc, rfl, -, -, -, -, hr⟩ := hr
  obtain ⟨oa, oc, rfl, -, -, -, -, ho⟩ := ho
  rcases (show j = 0 ∨ j = 1 ∨ j = 2 ∨ j = 3 ∨ j = 4 by omega) with rfl | rfl | rfl | rfl | rfl
  · obtain ⟨b, off, rfl, -, hb, hc⟩ := hr.bool (k := a.toNat) (by omega)
    rw [show isGone g (followsL g) (((0 : Nat) : Int) + 1) a = ((hasL g)[a.toNat]'(by omega) == false) by rw [eh, key]; simp [isGone]]
    exact isH_spec hI ha (by omega) hb hc
  · obtain ⟨b, off, rfl, -, hb, hc⟩ := hf.bool (k := a.toNat) (by omega)
    rw [show isGone g (followsL g) (((1 : Nat) : Int) + 1) a = ((factsL g)[a.toNat]'(by omega) == true) by rw [ef, key2]; simp [isGone]]
    exact isF_spec hI ha (by omega) hb hc
  · obtain ⟨b, off, rfl, -, hb, hc⟩ := hf.bool (k := a.toNat) (by omega)
    rw [show isGone g (followsL g) (((2 : Nat) : Int) + 1) a = ((factsL g)[a.toNat]'(by omega) == true) by rw [ef, key2]; simp [isGone]]
    exact isF_spec hI ha (by omega) hb hc
  · obtain ⟨b, off, rfl, -, hb, hc⟩ := hr.bool (k := a.toNat) (by omega)
    rw [show isGone g (followsL g) (((3 : Nat) : Int) + 1) a = ((hasL g)[a.toNat]'(by omega) == false) by rw [eh, key]; simp [isGone]]
    exact isH_spec hI ha (by omega) hb hc
  · obtain ⟨b, off, rfl, -, hb, hc⟩ := ho.bool (k := a.toNat) (by omega)
    rw [show isGone g (followsL g) (((4 : Nat) : Int) + 1) a = ((followsL g)[a.toNat]'(by omega) == false) by rw [key, getElem_eq_getD]; simp [isGone]]
    exact isO_spec hI ha (by omega) hb hc

theorem mk_spec {w : World} {fn : Nat} {b : Bool} :
    Calls Try.prog 55 #[.func (.func fn) #[] #[], .bool b] w fun e w' => e = .returned (.func (.func 56) #[] #[.pointer (some ⟨w.heap.size, 0, none⟩), .pointer (some ⟨w.heap.size + 1, 0, none⟩)]) ∧ w' = (w.alloc (.cells #[.func (.func fn) #[] #[]] 86)).alloc (.cells #[.bool b] 4) := by
  go_enter Try.func55, Try.ntmps55
  go_wp2
  go_ret
  exact ⟨rfl, rfl⟩

/-- All kinds, as a value: from block h on. -/
def kindsV (h : Nat) : Value := .agg #[.func (.func 56) #[] #[.pointer (some ⟨h + 1, 0, none⟩), .pointer (some ⟨h + 1 + 1, 0, none⟩)], .bool true, .bool false, .func (.func 56) #[] #[.pointer (some ⟨h + 1 + 1 + 1, 0, none⟩), .pointer (some ⟨h + 1 + 1 + 1 + 1, 0, none⟩)], .bool true, .bool true, .func (.func 56) #[] #[.pointer (some ⟨h + 1 + 1 + 1 + 1 + 1, 0, none⟩), .pointer (some ⟨h + 1 + 1 + 1 + 1 + 1 + 1, 0, none⟩)], .bool false, .bool false, .func (.func 56) #[] #[.pointer (some ⟨h + 1 + 1 + 1 + 1 + 1 + 1 + 1, 0, none⟩), .pointer (some ⟨h + 1 + 1 + 1 + 1 + 1 + 1 + 1 + 1, 0, none⟩)], .bool false, .bool true, .func (.func 56) #[] #[.pointer (some ⟨h + 1 + 1 + 1 + 1 + 1 + 1 + 1 + 1 + 1, 0, none⟩), .pointer (some ⟨h + 1 + 1 + 1 + 1 + 1 + 1 + 1 + 1 + 1 + 1, 0, none⟩)], .bool false, .bool true]
def KindsAt (w : World) (h : Nat) : Prop := ∀ j, j < 5 → IsBox w (h + 1 + 2 * j) (h + 2 + 2 * j) (kFn j) (kWant j)
theorem KindsAt.at {w w' : World} {h : Nat} (H : KindsAt w h) (hb : Below w.heap.size w w') : KindsAt w' h := fun j hj => (H j hj).at hb

set_option maxHeartbeats 1600000 in
theorem kinds_spec {w : World} :
    Calls Try.prog 31 #[] w (Ret (fun v w' => v = kindsV w.heap.size ∧ KindsAt w' w.heap.size ∧ w.heap.size + 11 = w'.heap.size) w) := by
  go_enter Try.func31, Try.ntmps31
  go_wp2_with fail
  iterate 5
    refine (mk_spec).mono ?_
    rintro e w' ⟨rfl, rfl⟩
    go_wp2_with fail
  refine bodyPost_ret (v := kindsV w.heap.size) (by unfold kindsV; simp [results, Try.results31, go_sem]) rfl ⟨_, rfl, Seq.way, rfl, ?_, by simp⟩
  intro j hj
  rcases (show j = 0 ∨ j = 1 ∨ j = 2 ∨ j = 3 ∨ j = 4 by omega) with rfl | rfl | rfl | rfl | rfl
  all_goals
    refine ⟨?_, ?_⟩
  all_goals
    repeat (first | (refine Row.new _ _ _ ?_; (simp; done)) | refine Row.alloc ?_ _)
end Go.Proofs.Ytdbennmbbmoflaa
