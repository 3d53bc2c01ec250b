/-
  The program: the search in rows of terms; Has.
-/
import Derived.Test.YtaedgpcmkagpeaaGreatTmS
import Derived.Deep.DeepCutAuto
namespace Go.Proofs.YtaedgpcmkagpeaaGreat
open Go Go.RowKit

def SortT (l : List (List Cell)) : Prop := l.Pairwise fun a b => cmpT a b < 0
def insAtT (x : List Cell) : List (List Cell) → Nat
  | [] => 0
  | y :: l => if cmpT y x < 0 then insAtT x l + 1 else 0
theorem insAtT_le (x : List Cell) : ∀ l, insAtT x l ≤ l.length
  | [] => Nat.le_refl _
  | y :: l => by
    have := insAtT_le x l
    unfold insAtT
    split
    · simp only [List.length_cons]; omega
    · exact Nat.zero_le _
theorem insAtT_lt (x : List Cell) : ∀ (l : List (List Cell)) (t : Nat) (_ : t < insAtT x l) (ht : t < l.length), cmpT l[t] x < 0
  | [], t, _, h => by simp at h
  | y :: l, t, h, ht => by
    unfold insAtT at h
    split at h
    · rename_i hy
      cases t with
      | zero => exact hy
      | succ t => exact insAtT_lt x l t (by omega) (by simpa using ht)
    · omega
theorem insAtT_at (x : List Cell) : ∀ (l : List (List Cell)) (h : insAtT x l < l.length), ¬ cmpT l[insAtT x l] x < 0
  | [], h => by simp at h
  | y :: l, h => by
    by_cases hy : cmpT y x < 0
    · have e : insAtT x (y :: l) = insAtT x l + 1 := by rw [insAtT, if_pos hy]
      simp only [e, List.getElem_cons_succ]
      exact insAtT_at x l (by rw [e] at h; simpa using h)
    · have e : insAtT x (y :: l) = 0 := by rw [insAtT, if_neg hy]
      simp only [e, List.getElem_cons_zero]
      exact hy
theorem cmpT_self (a : List Cell) : cmpT a a = 0 := cmpT_zero.2 rfl
theorem cmpT_asymm {a b : List Cell} (h : cmpT a b < 0) : ¬ cmpT b a < 0 := by rw [cmpT_neg a b]; omega
theorem sortT_lt {l : List (List Cell)} {x : List Cell} (hs : SortT l) {i j : Nat} (hij : i ≤ j) (hj : j < l.length) (h : cmpT l[j] x < 0) : cmpT (l[i]'(by omega)) x < 0 := by
  rcases Nat.lt_or_eq_of_le hij with h1 | h1
  · exact cmpT_trans (List.pairwise_iff_getElem.1 hs i j (by omega) hj h1) h
  · subst h1; exact h
theorem insAtT_eq {l : List (List Cell)} {x : List Cell} {i : Nat} (hi : i ≤ l.length) (h1 : ∀ t (ht : t < l.length), t < i → cmpT l[t] x < 0) (h2 : ∀ t (ht : t < l.length), i ≤ t → ¬ cmpT l[t] x < 0) : i = insAtT x l := by
  have hle := insAtT_le x l
  rcases Nat.lt_trichotomy i (insAtT x l) with h | h | h
  · exact absurd (insAtT_lt x l i h (by omega)) (h2 i (by omega) (Nat.le_refl _))
  · exact h
  · exact absurd (h1 _ (by omega) h) (insAtT_at x l (by omega))
theorem mem_insAtT {l : List (List Cell)} {x : List Cell} (hs : SortT l) : x ∈ l ↔ ∃ h : insAtT x l < l.length, cmpT l[insAtT x l] x = 0 := by
  constructor
  · intro h
    obtain ⟨j, hj, rfl⟩ := List.mem_iff_getElem.1 h
    have : j = insAtT l[j] l := by
      refine insAtT_eq (by omega) (fun t ht h => List.pairwise_iff_getElem.1 hs t j ht hj h) fun t ht h => ?_
      rcases Nat.lt_or_eq_of_le h with h1 | h1
      · exact cmpT_asymm (List.pairwise_iff_getElem.1 hs j t hj ht h1)
      · subst h1; rw [cmpT_self]; omega
    refine ⟨by omega, ?_⟩
    have h2 : l[insAtT l[j] l]'(by omega) = l[j] := by congr 1; exact this.symm
    rw [h2]; exact cmpT_self _
  · rintro ⟨h, h0⟩
    exact (cmpT_zero.1 h0) ▸ List.getElem_mem h

set_option maxHeartbeats 4000000 in
set_option maxRecDepth 100000 in
theorem searchT_spec {S T : Nat → Prop} {w : World} {v u : Value} {l : List (List Cell)} {x : List Cell} (hl : Seq (seqE cellE) S w v l) (hx : Seq cellE T w u x) (hs : SortT l) (hlen : l.length ≤ 1000000) :
    Calls Tryz.prog 60 #[v, u, .func (.func 35) #[] #[]] w (RetV (.tuple #[.int .i64 (insAtT x l : Nat), .bool (decide (x ∈ l))]) w) := by
  obtain ⟨ao, cap, rfl, h1, h2, h3, h4, h5⟩ := hl
  have HX := Lib.hid hx
  obtain ⟨xa, xc, rfl, -⟩ := hx
  have hmem := Lib.hid (mem_insAtT (x := x) hs)
  have Hs := Lib.hid hs
  clear hs
  go_enter Tryz.func60, Tryz.ntmps60
  go_wp2_with fail
  go_loopw [9, 10] (fun i j wr => ∃ a b : Nat, a ≤ b ∧ b ≤ l.length ∧ i = .int .i64 a ∧ j = .int .i64 b ∧ Hid ((∀ t (ht : t < l.length), t < a → cmpT l[t] x < 0) ∧ (∀ t (ht : t < l.length), b ≤ t → 0 ≤ cmpT l[t] x)) ∧
    Below w.heap.size w wr) (fun i j _ => (intOf j).toNat - (intOf i).toNat)
  case atStart => exact ⟨0, l.length, Nat.zero_le _, Nat.le_refl _, rfl, rfl, Lib.hid ⟨fun t _ h => by omega, fun t ht h => by omega⟩, Below.refl _ _⟩
  case round =>
    obtain ⟨a, b, hab, hbl, rfl, rfl, hno, hwr⟩ := hrel
    have hzr := hwr.size
    by_cases hlt : a < b
    · obtain ⟨m, hm⟩ : ∃ m, m = (a + b) / 2 := ⟨_, rfl⟩
      have hml : (a + b) / 2 < l.length := by omega
      obtain ⟨rb, ro, p1, n1, rfl, -, hbb, g0, hY⟩ := (h5.below hwr fun _ _ h => h).seq hml
      have hi0 : 0 ≤ ((a : Int) + (b : Int)) / 2 := by omega
      have hi2 : (((a : Int) + (b : Int)) / 2).toNat = (a + b) / 2 := by omega
      have hi1 : ((a : Int) + (b : Int)) / 2 < (l.length : Int) := by omega
      obtain ⟨y, hy⟩ : ∃ y, y = l[(a + b) / 2] := ⟨_, rfl⟩
      have Hy := Lib.hid hy
      rw [← hy] at g0 hY
      have HY := Lib.hid hY
      have Hm := Lib.hid hm
      clear hy hY hm
      go_wp2_with fail
      refine (CompareP_spec HY.out (HX.out.at hwr)).mono ?_
      obtain ⟨c, hc⟩ : ∃ c, c = cmpT y x := ⟨_, rfl⟩
      have Hc := Lib.hid hc
      rw [← hc]
      clear hc
      rintro e w3 ⟨rfl, hb3⟩
      have hb3' := below_step hb3 hwr
      by_cases hcn : c < 0
      · have hnx := Lib.hid (show (∀ t (ht : t < l.length), t < m + 1 → cmpT l[t] x < 0) ∧ (∀ t (ht : t < l.length), b ≤ t → 0 ≤ cmpT l[t] x) by
          refine ⟨fun t ht h => ?_, hno.out.2⟩
          exact sortT_lt (x := x) Hs.out (i := t) (j := (a + b) / 2) (by have := Hm.out; omega) hml (by rw [← Hy.out, ← Hc.out]; exact hcn))
        have hm1 : m + 1 ≤ b := by have := Hm.out; omega
        have Hmi := Lib.hid (show ((a : Int) + (b : Int)) / 2 + 1 = ((m + 1 : Nat) : Int) by have := Hm.out; omega)
        go_wp2_with fail
        go_roundw
        case rel => exact ⟨m + 1, b, hm1, hbl, by rw [Hmi.out], rfl, hnx, hb3'⟩
        case measure =>
          have := Hmi.out
          simp only [intOf]; omega
      · have hnx := Lib.hid (show (∀ t (ht : t < l.length), t < a → cmpT l[t] x < 0) ∧ (∀ t (ht : t < l.length), m ≤ t → 0 ≤ cmpT l[t] x) by
          refine ⟨hno.out.1, fun t ht h => ?_⟩
          refine Int.not_lt.1 fun h2 => ?_
          have h1 := sortT_lt (x := x) Hs.out (i := (a + b) / 2) (j := t) (by have := Hm.out; omega) ht h2
          rw [← Hy.out, ← Hc.out] at h1
          exact hcn h1)
        have hm1 : m ≤ l.length := by have := Hm.out; omega
        have hm2 : a ≤ m := by have := Hm.out; omega
        have hm3 : m < b := by have := Hm.out; omega
        have Hmi := Lib.hid (show ((a : Int) + (b : Int)) / 2 = (m : Int) by have := Hm.out; omega)
        go_wp2_with fail
        go_roundw
        case rel => exact ⟨a, m, hm2, hm1, rfl, by rw [Hmi.out], hnx, hb3'⟩
        case measure =>
          have := Hmi.out
          simp only [intOf]; omega
    · obtain rfl : a = b := by omega
      have Hia := Lib.hid (show a = insAtT x l from insAtT_eq hbl hno.out.1 fun t ht h => Int.not_lt.2 (hno.out.2 t ht h))
      by_cases hal : a < l.length
      · obtain ⟨rb, ro, p1, n1, rfl, -, hbb, g0, hY⟩ := (h5.below hwr fun _ _ h => h).seq hal
        obtain ⟨y, hy⟩ : ∃ y, y = l[a] := ⟨_, rfl⟩
        have Hy := Lib.hid hy
        rw [← hy] at g0 hY
        have HY := Lib.hid hY
        have hk0 : (0 : Int) ≤ (a : Int) := by omega
        have hkl : (a : Int) < (l.length : Int) := by omega
        clear hy hY
        go_wp2_with fail
        refine (CompareP_spec HY.out (HX.out.at hwr)).mono ?_
        obtain ⟨c, hc⟩ : ∃ c, c = cmpT y x := ⟨_, rfl⟩
        have Hc := Lib.hid hc
        rw [← hc]
        clear hc
        have Hres := Lib.hid (show (decide (x ∈ l)) = (c == 0) by
          rw [Bool.eq_iff_iff, decide_eq_true_eq, beq_iff_eq, hmem.out]
          have e := Hia.out
          constructor
          · rintro ⟨h, h0⟩
            rw [Hc.out, Hy.out, ← h0]
            congr 2
          · intro h0
            refine ⟨by omega, ?_⟩
            rw [← h0, Hc.out, Hy.out]
            congr 2; omega)
        rintro e w3 ⟨rfl, hb3⟩
        have hb3' := below_step hb3 hwr
        go_wp2_with fail
        go_ret2
        have e : Ending.returned (Value.tuple #[.int .i64 (a : Int), .bool (c == 0)]) = Ending.returned (Value.tuple #[.int .i64 (insAtT x l : Nat), .bool (decide (x ∈ l))]) := by rw [Hres.out, ← Hia.out]
        exact ⟨e, hb3'⟩
      · have hres := Lib.hid (show decide (x ∈ l) = false by
          rw [decide_eq_false_iff_not, hmem.out]
          rintro ⟨h, -⟩
          have := Hia.out; omega)
        go_wp2_with fail
        go_ret2
        have e : Ending.returned (Value.tuple #[.int .i64 (a : Int), .bool false]) = Ending.returned (Value.tuple #[.int .i64 (insAtT x l : Nat), .bool (decide (x ∈ l))]) := by rw [hres.out, ← Hia.out]
        exact ⟨e, hwr⟩



end Go.Proofs.YtaedgpcmkagpeaaGreat
