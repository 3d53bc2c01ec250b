/-
  The program: facts.Right.
-/
import Derived.Test.YtceipnlpofebmaaTmX
namespace Go.Proofs.Ytceipnlpofebmaa
open Go Go.RowKit

def oddF (t : List Cell) : Bool := !factT t
theorem oddF_spec {S : Nat → Prop} {w : World} {v : Value} {t : List Cell} (ht : Seq cellE S w v t) : Calls Try.prog 24 #[v] w (RetV (.bool (oddF t)) w) := by
  have Ht := Lib.hid ht
  have ho := Lib.hid (show oddF t = !factT t from rfl)
  obtain ⟨ao, cap, rfl, -⟩ := ht
  go_enter Try.func24, Try.ntmps24
  go_wp2_with fail
  refine (FactP_spec Ht.out).mono ?_
  rintro e w1 ⟨rfl, hb1⟩
  go_wp2_with fail
  go_ret
  exact ⟨ret_bool ho.out.symm, hb1⟩

set_option maxHeartbeats 1600000 in
set_option maxRecDepth 100000 in
theorem oddF_index {T : Nat → Prop} {w : World} {v : Value} {l : List (List Cell)} (hl : Seq (seqE cellE) T w v l) :
    Calls Try.prog 40 #[v, .func (.func 24) #[] #[]] w (HasV (l.any oddF) w) := by
  obtain ⟨P, hP⟩ : ∃ P, P = (oddF : List Cell → Bool) := ⟨_, rfl⟩
  have HP := Lib.hid hP
  obtain ⟨ao, cap, rfl, h1, h2, h3, h4, h5⟩ := hl
  rw [← hP]
  clear hP
  go_enter Try.func40, Try.ntmps40
  go_wp2_with fail
  go_loopw [8] (fun i wr => ∃ k : Nat, k ≤ l.length ∧ i = .int .i64 k ∧ Hid (∀ x ∈ l.take k, P x = false) ∧ Below w.heap.size w wr) (fun i _ => l.length - (intOf i).toNat)
  case atStart => exact ⟨0, Nat.zero_le _, rfl, Lib.hid (by simp), Seq.way⟩
  case round =>
    obtain ⟨k, hk, rfl, hno, hbr⟩ := hrel
    have hzr := hbr.size
    by_cases hlt : k < l.length
    · obtain ⟨b, off, p1, n1, rfl, -, -, c0, hX⟩ := (h5.below hbr fun _ _ h => h).seq hlt
      have HX := Lib.hid hX
      have hmem := Lib.hid (List.getElem_mem hlt)
      have hxs := Lib.hid (show P l[k] = false → ∀ y ∈ l.take (k + 1), P y = false from fun hp y hy => by
        rw [List.take_succ_eq_append_getElem hlt] at hy
        rcases List.mem_append.1 hy with h | h
        · exact hno.out y h
        · rw [List.mem_singleton] at h; rw [h]; exact hp)
      have hxa := Lib.hid (show P l[k] = true → l.any P = true from fun hp => List.any_eq_true.2 ⟨l[k], List.getElem_mem hlt, hp⟩)
      obtain ⟨x, hxe⟩ : ∃ x, x = l[k] := ⟨_, rfl⟩
      rw [← hxe] at hxs hxa hmem c0 HX
      clear hxe h5 hno hX
      have hkl : (k : Int) < (l.length : Int) := by omega
      have hk0 : (0 : Int) ≤ (k : Int) := by omega
      go_wp2_with fail
      refine (oddF_spec HX.out).mono ?_
      rw [show oddF x = P x by rw [← HP.out]]
      rintro e w' ⟨rfl, hb'⟩
      have hbw := below_step hb' hbr
      cases hp : P x
      · have hst := Lib.hid (hxs.out hp)
        clear hp
        go_wp2_with fail
        go_roundw
        case rel => exact ⟨k + 1, hlt, by go_num, hst, hbw⟩
        case measure => simp [intOf]; omega
      · have hst := Lib.hid (hxa.out hp)
        clear hp
        go_wp2_with fail
        go_ret
        exact ⟨_, rfl, by rw [hst.out]; simp, hbw⟩
    · obtain rfl : k = l.length := by omega
      have hst := Lib.hid (show l.any P = false by
        rw [List.any_eq_false]; intro x hx; rw [hno.out x (by rw [List.take_length]; exact hx)]; simp)
      clear hno
      go_wp2_with fail
      go_ret
      exact ⟨_, rfl, by rw [hst.out]; rfl, hbr⟩

theorem oddF_has {T : Nat → Prop} {w : World} {v : Value} {l : List (List Cell)} (hl : Seq (seqE cellE) T w v l) :
    Calls Try.prog 25 #[v, .func (.func 24) #[] #[]] w (RetV (.bool (l.any oddF)) w) := by
  have hl' := Lib.hid hl
  obtain ⟨ao, cap, rfl, -⟩ := hl
  go_enter Try.func25, Try.ntmps25
  go_wp2_with fail
  refine (oddF_index hl'.out).mono ?_
  rintro e w' ⟨r, rfl, hr, hb⟩
  have hr := Lib.hid hr
  go_wp2_with fail
  all_goals go_ret
  all_goals exact ⟨ret_bool (by rw [← hr.out]), hb⟩

theorem okAt_fact {l : List (List Cell)} {k : Nat} (hk : k < l.length) (h : factT l[k] = false) : okAt l k = false := by
  unfold okAt
  rw [List.getElem?_eq_getElem hk]
  simp [h]
theorem rowR_odd {l : List (List Cell)} (h : l.any oddF = true) : rowR l = false := by
  obtain ⟨t, ht, ho⟩ := List.any_eq_true.1 h
  obtain ⟨k, hk, rfl⟩ := List.mem_iff_getElem.1 ht
  exact rowR_no hk (okAt_fact hk (by unfold oddF at ho; simpa using ho))

set_option maxHeartbeats 1600000 in
set_option maxRecDepth 100000 in
theorem RightP12_spec {S : Nat → Prop} {w : World} {v : Value} {l : List (List Cell)} (hl : Seq (seqE cellE) S w v l) :
    Calls Try.prog 12 #[v] w (RetV (.bool (rowR l)) w) := by
  have Hl := Lib.hid hl
  obtain ⟨aa, ac, rfl, -, -, hal, -, h5⟩ := hl
  go_enter Try.func12, Try.ntmps12
  by_cases h512 : l.length ≤ 512
  · have h512' : (l.length : Int) ≤ 512 := by omega
    have hgt : decide ((512 : Int) < (l.length : Int)) = false := decide_eq_false (by omega)
    have hgt2 : decide (512 < l.length) = false := decide_eq_false (by omega)
    go_wp2_with fail
    refine (oddF_has Hl.out).mono ?_
    rintro e w1 ⟨rfl, hb1⟩
    have hz1 := hb1.size
    cases ha : l.any oddF
    · have hfa := Lib.hid (show ∀ x ∈ l, factT x = true from fun x hx => by
        have := (List.any_eq_false.1 ha) x hx
        unfold oddF at this
        simpa using this)
      clear ha
      go_wp2_with fail
      go_loopw [4] (fun i wr => ∃ j : Nat, (j < l.length ∨ j = 0) ∧ i = .int .i64 ((j : Int) + 1) ∧ Hid (∀ m, m ≤ j → m < l.length → okAt l m = true) ∧ Below w.heap.size w wr) (fun i _ => l.length + 1 - (intOf i).toNat)
      case atStart =>
        refine ⟨0, .inr rfl, rfl, Lib.hid fun m hm hml => ?_, hb1⟩
        obtain rfl : m = 0 := by omega
        rw [okAt_zero hml]
        exact hfa.out _ (List.getElem_mem hml)
      case round =>
        obtain ⟨j, hj, rfl, hno, hbr⟩ := hrel
        have hzr := hbr.size
        by_cases hlt : j + 1 < l.length
        · obtain ⟨b1, o1, p1, n1, rfl, -, l1, c0, hX⟩ := (h5.below hbr fun _ _ h => h).seq hlt
          obtain ⟨b2, o2, p2, n2, e2, -, l2, d0, hY⟩ := (h5.below hbr fun _ _ h => h).seq (show j < l.length by omega)
          simp only [Option.some.injEq, Addr.mk.injEq, and_true] at e2
          obtain ⟨rfl, rfl⟩ := e2
          have hnot := Lib.hid (show okAt l (j + 1) = false → rowR l = false from rowR_no hlt)
          have hyes := Lib.hid (show okAt l (j + 1) = true → ∀ m, m ≤ j + 1 → m < l.length → okAt l m = true from fun h m hm hml => by
            by_cases hmj : m ≤ j
            · exact hno.out m hmj hml
            · obtain rfl : m = j + 1 := by omega
              exact h)
          have hok := okAt_succ hlt
          rw [hfa.out _ (List.getElem_mem hlt), cmpR_right (factT_parts (hfa.out _ (List.getElem_mem (show j < l.length by omega)))).1 (factT_parts (hfa.out _ (List.getElem_mem hlt))).1, Bool.true_and] at hok
          have HX := Lib.hid hX
          have HY := Lib.hid hY
          obtain ⟨x, hx⟩ : ∃ x, x = l[j + 1] := ⟨_, rfl⟩
          obtain ⟨y, hy⟩ : ∃ y, y = l[j]'(by omega) := ⟨_, rfl⟩
          rw [← hx] at c0 HX hok
          rw [← hy] at d0 HY hok
          have Hok := Lib.hid hok
          clear hx hy h5 hX hY hno hok
          have hkm : (j : Int) < (l.length : Int) := by omega
          have hk1 : (0 : Int) ≤ (j : Int) := by omega
          have hkp0 : (0 : Int) ≤ (j : Int) + 1 := by omega
          have hkp1 : (j : Int) + 1 < (l.length : Int) := by omega
          have hkt : ((j : Int) + 1).toNat = j + 1 := by omega
          have hkw : IntKind.i64.wrap (j : Int) = (j : Int) := by rw [IntKind.wrap_i64]; omega
          go_wp2_with fail
          go_still_tail 9, (by kernel_rfl)
          go_wp2_with fail
          refine (CompareP_spec (HY.out.at Seq.way) (HX.out.at Seq.way)).mono ?_
          rintro e w2 ⟨rfl, hb2⟩
          have hb2' : Below w.heap.size w w2 := below_step (below_step hb2 (Seq.way : Below wr.heap.size wr _)) hbr
          by_cases hc : cmpT y x < 0
          · have hy := Lib.hid (hyes.out (by rw [Hok.out]; exact decide_eq_true hc))
            have hcd : decide (0 ≤ cmpT y x) = false := decide_eq_false (by omega)
            go_wp2_with fail
            go_roundw
            case rel => exact ⟨j + 1, .inl hlt, by go_num, hy, hb2'⟩
            case measure => simp [intOf]; omega
          · have hn := Lib.hid (hnot.out (by rw [Hok.out]; exact decide_eq_false hc))
            have hcd : decide (0 ≤ cmpT y x) = true := decide_eq_true (by omega)
            go_wp2_with fail
            go_ret
            exact ⟨ret_bool hn.out.symm, hb2'⟩
        · have hr := Lib.hid (rowR_yes h512 fun m hm => hno.out m (by omega) hm)
          have hle : (l.length : Int) ≤ (j : Int) + 1 := by omega
          go_wp2_with fail
          go_ret
          exact ⟨ret_bool hr.out.symm, hbr⟩
    · have hr := Lib.hid (rowR_odd ha)
      go_wp2_with fail
      go_ret
      exact ⟨ret_bool hr.out.symm, hb1⟩
  · have hr := Lib.hid (show rowR l = false by unfold rowR; rw [decide_eq_false h512]; rfl)
    go_wp2_with fail
    go_ret
    exact ⟨ret_bool hr.out.symm, Below.refl _ _⟩
end Go.Proofs.Ytceipnlpofebmaa
