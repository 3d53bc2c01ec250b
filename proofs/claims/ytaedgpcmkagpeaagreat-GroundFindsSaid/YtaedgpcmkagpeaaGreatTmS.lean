/-
  The program: the order of terms; facts.
-/
import Derived.Test.YtaedgpcmkagpeaaGreatTmR
namespace Go.Proofs.YtaedgpcmkagpeaaGreat
open Go Go.RowKit

theorem cmpT_step {a b : List Cell} {k : Nat} (hk : k < a.length) (hk' : k < b.length) : cmpT (a.drop k) (b.drop k) = if cmpC a[k] b[k] ≠ 0 then cmpC a[k] b[k] else cmpT (a.drop (k + 1)) (b.drop (k + 1)) := by
  rw [List.drop_eq_getElem_cons hk, List.drop_eq_getElem_cons hk']; rfl
theorem cmpT_end1 {a b : List Cell} {k : Nat} (hk : k < a.length) (hb : b.length ≤ k) : cmpT (a.drop k) (b.drop k) = 1 := by
  rw [List.drop_eq_getElem_cons hk, List.drop_eq_nil_of_le hb]; rfl
theorem cmpT_end2 {a b : List Cell} : a.length < b.length → cmpT (a.drop a.length) (b.drop a.length) = -1 := fun h => by
  rw [List.drop_eq_nil_of_le (Nat.le_refl _), List.drop_eq_getElem_cons h]; rfl
theorem cmpT_end3 {a b : List Cell} : ¬ a.length < b.length → cmpT (a.drop a.length) (b.drop a.length) = 0 := fun h => by
  rw [List.drop_eq_nil_of_le (Nat.le_refl _), List.drop_eq_nil_of_le (by omega)]; rfl

set_option maxHeartbeats 1600000 in
set_option maxRecDepth 100000 in
theorem compareF_spec {S T : Nat → Prop} {w : World} {v u : Value} {a b : List Cell} (ha : Seq cellE S w v a) (hb : Seq cellE T w u b) :
    Calls Tryz.prog 72 #[v, u, .func (.func 73) #[] #[]] w (RetV (.int .i64 (cmpT a b)) w) := by
  obtain ⟨aa, ac, rfl, -, -, hal, -, ha5⟩ := ha
  obtain ⟨ba, bc, rfl, -, -, hbl, -, hb5⟩ := hb
  go_enter Tryz.func72, Tryz.ntmps72
  go_wp2_with fail
  go_loopw [13] (fun i wr => ∃ k : Nat, k ≤ a.length ∧ k ≤ b.length ∧ i = .int .i64 k ∧ Hid (cmpT a b = cmpT (a.drop k) (b.drop k)) ∧ Below w.heap.size w wr) (fun i _ => a.length - (intOf i).toNat)
  case atStart => exact ⟨0, Nat.zero_le _, Nat.zero_le _, rfl, Lib.hid rfl, Below.refl _ _⟩
  case round =>
    obtain ⟨k, hk, hk', rfl, hno, hbr⟩ := hrel
    have hzr := hbr.size
    by_cases hka : k < a.length
    · have hkl : (k : Int) < (a.length : Int) := by omega
      have hk0 : (0 : Int) ≤ (k : Int) := by omega
      obtain ⟨b1, o1, rfl, -, l1, c0, c1, c2, -⟩ := (ha5.below hbr fun _ _ h => h).cell hka
      by_cases hkb : k < b.length
      · obtain ⟨b2, o2, rfl, -, l2, d0, d1, d2, -⟩ := (hb5.below hbr fun _ _ h => h).cell hkb
        have hst := Lib.hid (cmpT_step hka hkb)
        clear ha5 hb5
        obtain ⟨x, hxe⟩ : ∃ x, x = a[k] := ⟨_, rfl⟩
        obtain ⟨y, hye⟩ : ∃ y, y = b[k] := ⟨_, rfl⟩
        rw [← hxe] at c0 c1 c2 hst
        rw [← hye] at d0 d1 d2 hst
        clear hxe hye
        have hkm : (k : Int) < (b.length : Int) := by omega
        go_wp2_with fail
        refine (cmpC_spec (x := x) (y := y)).mono ?_
        rintro e w1 ⟨rfl, hb1⟩
        have hb1' : Below w.heap.size w w1 := below_step (below_step hb1 (Seq.way : Below wr.heap.size wr _)) hbr
        by_cases he : cmpC x y = 0
        · have hx' := Lib.hid (show cmpT a b = cmpT (a.drop (k + 1)) (b.drop (k + 1)) by rw [hno.out, hst.out, if_neg (by simp [he])])
          have he' : (cmpC x y != 0) = false := by simp [he]
          rw [he]
          clear hst hno he he'
          go_wp2_with fail
          go_roundw
          case rel => exact ⟨k + 1, hka, hkb, by go_num, hx', hb1'⟩
          case measure => simp [intOf]; omega
        · have hz := Lib.hid (show cmpT a b = cmpC x y by rw [hno.out, hst.out, if_pos he])
          have he' : (cmpC x y != 0) = true := by simp [he]
          clear hst hno
          go_wp2_with fail
          go_ret
          exact ⟨ret_int hz.out.symm, hb1'⟩
      · have hz := Lib.hid (show cmpT a b = 1 by rw [hno.out, cmpT_end1 hka (by omega)])
        have hbk : (b.length : Int) ≤ (k : Int) := by omega
        go_wp2_with fail
        go_ret
        exact ⟨ret_int hz.out.symm, (below_step (Seq.way : Below wr.heap.size wr _) hbr)⟩
    · obtain rfl : k = a.length := by omega
      by_cases hl : a.length < b.length
      · have hz := Lib.hid (show cmpT a b = -1 by rw [hno.out, cmpT_end2 hl])
        go_wp2_with fail
        go_ret
        exact ⟨ret_int hz.out.symm, hbr⟩
      · have hz := Lib.hid (show cmpT a b = 0 by rw [hno.out, cmpT_end3 hl])
        go_wp2_with fail
        go_ret
        exact ⟨ret_int hz.out.symm, hbr⟩

theorem CompareP_spec {S T : Nat → Prop} {w : World} {v u : Value} {a b : List Cell} (ha : Seq cellE S w v a) (hb : Seq cellE T w u b) :
    Calls Tryz.prog 35 #[v, u] w (RetV (.int .i64 (cmpT a b)) w) := by
  have Ha := Lib.hid ha
  have Hb := Lib.hid hb
  obtain ⟨aa, ac, rfl, -⟩ := ha
  obtain ⟨ba, bc, rfl, -⟩ := hb
  go_enter Tryz.func35, Tryz.ntmps35
  go_wp2_with fail
  refine (compareF_spec Ha.out Hb.out).mono ?_
  rintro e w1 ⟨rfl, hb1⟩
  go_wp2_with fail
  go_ret
  exact ⟨rfl, hb1⟩


end Go.Proofs.YtaedgpcmkagpeaaGreat
