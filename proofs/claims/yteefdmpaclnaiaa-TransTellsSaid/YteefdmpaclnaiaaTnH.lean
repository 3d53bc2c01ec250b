/-
  Layer 13: Right of the program.
-/
import Derived.Test.YteefdmpaclnaiaaTnG
namespace Go.Proofs.Yteefdmpaclnaiaa
open Go Go.RowKit

def oddC (c : Chg) : Bool := !factT c.t
theorem oddC_spec {S : Nat → Prop} {w : World} {pa : Option Addr} {pc : Nat} {c : Chg} (hc : Seq cellE S w (.slice pa c.t.length pc) c.t) :
    Calls Try.prog 35 #[.agg #[.bool c.add, .slice pa c.t.length pc]] w (RetV (.bool (oddC c)) w) := by
  have H := Lib.hid hc
  clear hc
  go_enter Try.func35, Try.ntmps35
  go_wp2_with fail
  refine (FactP_spec (H.out.at Seq.way)).mono ?_
  rintro e w1 ⟨rfl, hb1⟩
  have hb1' := below_step hb1 (Seq.way : Below w.heap.size w _)
  go_wp2_with fail
  go_ret
  exact ⟨rfl, hb1'⟩

set_option maxHeartbeats 1600000 in
set_option maxRecDepth 100000 in
theorem chgOdd_index {T : Nat → Prop} {w : World} {v : Value} {l : List (Chg)} (hl : Seq changeE T w v l) :
    Calls Try.prog 60 #[v, .func (.func 35) #[] #[]] w (HasV (l.any oddC) w) := by
  obtain ⟨P, hP⟩ : ∃ P, P = (oddC : Chg → Bool) := ⟨_, rfl⟩
  have HP := Lib.hid hP
  obtain ⟨ao, cap, rfl, h1, h2, h3, h4, h5⟩ := hl
  rw [← hP]
  clear hP
  go_enter Try.func60, Try.ntmps60
  go_wp2_with fail
  go_loopw [8] (fun i wr => ∃ k : Nat, k ≤ l.length ∧ i = .int .i64 k ∧ Hid (∀ x ∈ l.take k, P x = false) ∧ Below w.heap.size w wr) (fun i _ => l.length - (intOf i).toNat)
  case atStart => exact ⟨0, Nat.zero_le _, rfl, Lib.hid (by simp), Seq.way⟩
  case round =>
    obtain ⟨k, hk, rfl, hno, hbr⟩ := hrel
    have hzr := hbr.size
    by_cases hlt : k < l.length
    · obtain ⟨b, off, pa, pc, rfl, -, -, c0, c1, hX⟩ := (h5.below hbr fun _ _ h => h).chg hlt
      have hmem := Lib.hid (List.getElem_mem hlt)
      have hxs := Lib.hid (show P l[k] = false → ∀ y ∈ l.take (k + 1), P y = false from fun hp y hy => by
        rw [List.take_succ_eq_append_getElem hlt] at hy
        rcases List.mem_append.1 hy with h | h
        · exact hno.out y h
        · rw [List.mem_singleton] at h; rw [h]; exact hp)
      have hxa := Lib.hid (show P l[k] = true → l.any P = true from fun hp => List.any_eq_true.2 ⟨l[k], List.getElem_mem hlt, hp⟩)
      obtain ⟨x, hxe⟩ : ∃ x, x = l[k] := ⟨_, rfl⟩
      rw [← hxe] at hxs hxa hmem c0 c1 hX
      clear hxe h5 hno
      have hkl : (k : Int) < (l.length : Int) := by omega
      have hk0 : (0 : Int) ≤ (k : Int) := by omega
      go_wp2_with fail
      refine (oddC_spec (c := x) hX).mono ?_
      rw [show oddC x = P x by rw [← HP.out]]
      rintro e w' ⟨rfl, hb'⟩
      have hbw := below_step hb' hbr
      cases hp : P x
      · have hst := Lib.hid (hxs.out hp)
        clear hp
        go_wp2_with fail
        go_roundw
        case rel => exact ⟨k + 1, hlt, by go_num, hst, hbw⟩
        case measure => simp [intOf]; omega
      · have hst := Lib.hid (hxa.out hp)
        clear hp
        go_wp2_with fail
        go_ret
        exact ⟨_, rfl, by rw [hst.out]; simp, hbw⟩
    · obtain rfl : k = l.length := by omega
      have hst := Lib.hid (show l.any P = false by
        rw [List.any_eq_false]; intro x hx; rw [hno.out x (by rw [List.take_length]; exact hx)]; simp)
      clear hno
      go_wp2_with fail
      go_ret
      exact ⟨_, rfl, by rw [hst.out]; rfl, hbr⟩

theorem chgOdd_has {T : Nat → Prop} {w : World} {v : Value} {l : List (Chg)} (hl : Seq changeE T w v l) :
    Calls Try.prog 38 #[v, .func (.func 35) #[] #[]] w (RetV (.bool (l.any oddC)) w) := by
  have hl' := Lib.hid hl
  obtain ⟨ao, cap, rfl, -⟩ := hl
  go_enter Try.func38, Try.ntmps38
  go_wp2_with fail
  refine (chgOdd_index hl'.out).mono ?_
  rintro e w' ⟨r, rfl, hr, hb⟩
  have hr := Lib.hid hr
  go_wp2_with fail
  all_goals go_ret
  all_goals exact ⟨ret_bool (by rw [← hr.out]), hb⟩
end Go.Proofs.Yteefdmpaclnaiaa
