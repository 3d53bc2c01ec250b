/-
  R03.Atom; R12: facts, rows: Made, Fact, Has, Drop, less, Diff.
-/
import Derived.Test.YtbcambjonjhopaaGreatTmG
namespace Go.Proofs.YtbcambjonjhopaaGreat
open Go Go.RowKit

/-! ### Atom -/
def atomT (most : Nat) (l : List Cell) : List Cell := if isFun (madeT most l) = true then madeT most l else [aC]
theorem aC_right : RightT [aC] := by decide +kernel
theorem atomT_right {most : Nat} (l : List Cell) (h : 1 ≤ most) (h2 : most ≤ 200) : RightT (atomT most l) ∧ (atomT most l).length ≤ most ∧ isFun (atomT most l) = true := by
  have := madeT_right l h h2
  unfold atomT
  split
  · rename_i hf; exact ⟨this.1, this.2, hf⟩
  · exact ⟨aC_right, h, by decide⟩

theorem aC_seq {w : World} {B : Nat} (h : w.heap[B]? = some (.cells #[.int .i64 3, .string ⟨#[97]⟩, .int .i64 0] 52 (0, 0))) :
    Seq cellE (fun b => b = B) w (.slice (some ⟨B, 0, none⟩) 1 1) [aC] := by
  refine Row.seq (T := 52) (vs := [.int .i64 3, .string ⟨#[97]⟩, .int .i64 0]) h rfl (Nat.le_refl _) (by simp [maxLen]) (by simp) rfl ?_
  intro k x hk
  have hk2 : k < 1 := by have := (List.getElem?_eq_some_iff.1 hk).1; simpa using this
  obtain rfl : k = 0 := by omega
  simp at hk; subst hk
  refine ⟨_, ⟨rfl, ⟨by decide, by decide⟩, ⟨by decide, by decide⟩, by decide⟩, ?_⟩
  intro j hj
  have : j < 3 := hj
  rcases (show j = 0 ∨ j = 1 ∨ j = 2 by omega) with rfl | rfl | rfl <;> rfl

set_option maxRecDepth 100000 in
theorem AtomR_spec {S : Nat → Prop} {w : World} {v : Value} {l : List Cell} {most : Nat} (hl : Seq cellE S w v l) (hm : 1 ≤ most) (hm2 : most ≤ 200) :
    Calls Tryz.prog 54 #[v, .int .i64 most] w (Ret (fun r w' => Seq cellE (Fr S w) w' r (atomT most l)) w) := by
  have Hl := Lib.hid hl
  have hr := Lib.hid (madeT_right l hm hm2)
  have ha := Lib.hid (show atomT most l = if isFun (madeT most l) = true then madeT most l else [aC] from rfl)
  obtain ⟨ao, cap, rfl, -⟩ := hl
  go_enter Tryz.func54, Tryz.ntmps54
  go_wp2_with fail
  refine (MadeC_spec Hl.out hm hm2).mono ?_
  rintro e w1 ⟨v1, rfl, hb1, hs1⟩
  obtain ⟨t, ht⟩ : ∃ t, t = madeT most l := ⟨_, rfl⟩
  rw [← ht] at hs1 hr ha
  clear ht
  have Hs1 := Lib.hid hs1
  obtain ⟨a1, n1, rfl, -, -, -, -, h5⟩ := hs1
  have hl0 := hr.out.1.pos
  obtain ⟨b, off, rfl, -, -, c0, -⟩ := h5.cell hl0
  have hf := Lib.hid (show isFun t = decide (t[0].kind = 3) by cases t with | nil => simp at hl0 | cons c l => rfl)
  simp only [Nat.zero_mul, Nat.add_zero] at c0
  have hln : (0 : Int) < (t.length : Int) := by omega
  obtain ⟨c, hc⟩ : ∃ c, c = t[0] := ⟨_, rfl⟩
  rw [← hc] at c0 hf
  clear hc h5
  by_cases hk : c.kind = 3
  · have hfin := Lib.hid (show atomT most l = t by rw [ha.out, hf.out, if_pos (by simp [hk])])
    go_wp2_with fail
    go_ret
    exact ⟨_, rfl, hb1, by rw [hfin.out]; exact Hs1.out⟩
  · have hfin := Lib.hid (show atomT most l = [aC] by rw [ha.out, hf.out, if_neg (by simp [hk])])
    have hk' : (c.kind == 3) = false := by simpa using hk
    have hz1 := hb1.size
    go_wp2_with fail
    go_ret
    refine ⟨_, rfl, hb1.trans (Below.mono (Seq.way : Below w1.heap.size w1 _) hz1), ?_⟩
    rw [hfin.out]
    exact (aC_seq (heap_alloc_new w1 _)).mono (fun b h _ => .inr (by omega)) fun _ _ _ => rfl

/-! ### One cell of a row of one's own is written -/
theorem ownsRow_set {w : World} {base : Nat} {e : TypeId} {sz : Nat} {n cap g : Nat} {vs : List Value} (h : w.ownsRow base e sz (.slice (some ⟨g, 0, none⟩) n cap) n vs) {j : Nat} (_ : j < n * sz) (u : Value) :
    (w.setCell ⟨g, j, none⟩ u).ownsRow base e sz (.slice (some ⟨g, 0, none⟩) n cap) n (vs.set j u) := by
  obtain ⟨hl, ⟨h0, -⟩ | ⟨g', cap', cur, he, h0, h1, h2, h3, h4, h5⟩⟩ := h
  · simp at h0
  · simp only [Value.slice.injEq, Option.some.injEq, Addr.mk.injEq, true_and, and_true] at he
    obtain ⟨rfl, rfl⟩ := he
    refine ⟨by rw [List.length_set]; exact hl, .inr ⟨g, cap, cur.setIfInBounds j u, rfl, h0, ?_, h2, h3, by simpa using h4, ?_⟩⟩
    · have hlt : g < w.heap.size := by
        rcases Nat.lt_or_ge g w.heap.size with hlt | hge
        · exact hlt
        · rw [Array.getElem?_eq_none hge] at h1; simp at h1
      rw [Array.getElem?_eq_getElem hlt] at h1
      simp only [Option.some.injEq] at h1
      simp [World.setCell, Array.getElem?_modify, Array.getElem?_eq_getElem hlt, h1]
    · rw [Array.toList_setIfInBounds, List.take_set, h5]
theorem Own.setCell3 {S : Nat → Prop} {base : Nat} {e : TypeId} {w : World} {g cap : Nat} {xs : List Cell} (h : Own cellE S base e w (.slice (some ⟨g, 0, none⟩) xs.length cap) xs) {k : Nat} (hk : k < xs.length) {y : Cell} (h1 : IntOK y.kind) (h2 : IntOK y.n) (h3 : y.name.size ≤ 140737488355328) :
    Own cellE S base e (((w.setCell ⟨g, k * 3, none⟩ (.int .i64 y.kind)).setCell ⟨g, k * 3 + 1, none⟩ (.string y.name)).setCell ⟨g, k * 3 + 2, none⟩ (.int .i64 y.n)) (.slice (some ⟨g, 0, none⟩) xs.length cap) (xs.set k y) := by
  obtain ⟨vs, hv1, hv2⟩ := h
  have hl : vs.length = xs.length * 3 := hv1.1
  have e1 := ownsRow_set (ownsRow_set (ownsRow_set hv1 (j := k * 3) (by show k * 3 < xs.length * 3; omega) (.int .i64 y.kind)) (j := k * 3 + 1) (by show k * 3 + 1 < xs.length * 3; omega) (.string y.name)) (j := k * 3 + 2) (by show k * 3 + 2 < xs.length * 3; omega) (.int .i64 y.n)
  refine ⟨_, by rw [List.length_set]; exact e1, fun m x hx => ?_⟩
  by_cases hkm : k = m
  · subst hkm
    rw [List.getElem?_set_self hk] at hx
    simp only [Option.some.injEq] at hx
    subst hx
    refine ⟨_, ⟨rfl, h1, h2, h3⟩, fun j hj => ?_⟩
    have hj3 : j < 3 := hj
    show (((vs.set (k * 3) _).set (k * 3 + 1) _).set (k * 3 + 2) _)[k * 3 + j]? = _
    rcases (show j = 0 ∨ j = 1 ∨ j = 2 by omega) with rfl | rfl | rfl
    · rw [List.getElem?_set_ne (by omega), List.getElem?_set_ne (by omega), Nat.add_zero, List.getElem?_set_self (by omega)]; rfl
    · rw [List.getElem?_set_ne (by omega), List.getElem?_set_self (by simp; omega)]; rfl
    · rw [List.getElem?_set_self (by simp; omega)]; rfl
  · rw [List.getElem?_set_ne hkm] at hx
    obtain ⟨cs, h4, h5⟩ := hv2 m x hx
    refine ⟨cs, h4, fun j hj => ?_⟩
    have hj3 : j < 3 := hj
    have := h5 j hj
    show (((vs.set (k * 3) _).set (k * 3 + 1) _).set (k * 3 + 2) _)[m * 3 + j]? = _
    rw [List.getElem?_set_ne (by omega), List.getElem?_set_ne (by omega), List.getElem?_set_ne (by omega)]
    exact this

/-! ### R12.Fact -/
theorem FactR_spec {S : Nat → Prop} {w : World} {v : Value} {t : List Cell} (ht : Seq cellE S w v t) :
    Calls Tryz.prog 52 #[v] w (RetV (.bool (factT t)) w) := by
  have Ht := Lib.hid ht
  have hf := Lib.hid (show factT t = (rightT t && isFun t && groundT t && decide (depthT t ≤ 12)) from rfl)
  obtain ⟨ao, cap, rfl, -, -, -, -, h5⟩ := ht
  go_enter Tryz.func52, Tryz.ntmps52
  go_wp2_with fail
  refine (RightR_spec Ht.out).mono ?_
  rintro e w1 ⟨rfl, hb1⟩
  cases hr : rightT t
  · rw [hr] at hf
    go_wp2_with fail
    go_ret
    exact ⟨ret_bool (by rw [hf.out]; rfl), hb1⟩
  · have hR : RightT t := of_decide_eq_true hr
    have hl0 := hR.pos
    have hl2 := hR.1
    obtain ⟨b, off, rfl, -, -, c0, -⟩ := (h5.below hb1 fun _ _ h => h).cell hl0
    simp only [Nat.zero_mul, Nat.add_zero] at c0
    have hfu := Lib.hid (show isFun t = decide (t[0].kind = 3) by cases t with | nil => simp at hl0 | cons c l => rfl)
    have hln : (0 : Int) < (t.length : Int) := by omega
    obtain ⟨c, hc⟩ : ∃ c, c = t[0] := ⟨_, rfl⟩
    rw [← hc] at c0 hfu
    rw [hr, hfu.out] at hf
    clear hc h5 hr hR
    by_cases hk : c.kind = 3
    · go_wp2_with fail
      refine (GroundR_spec (Ht.out.at hb1) (by omega)).mono ?_
      rintro e w2 ⟨rfl, hb2⟩
      have hb2' := below_step hb2 hb1
      cases hg : groundT t
      · rw [hg] at hf
        go_wp2_with fail
        go_ret
        exact ⟨ret_bool (by rw [hf.out]; simp), hb2'⟩
      · rw [hg] at hf
        go_wp2_with fail
        refine (DepthR_spec 200 (by omega) (Nat.le_refl _) (Ht.out.at hb2')).mono ?_
        rintro e w3 ⟨rfl, hb3⟩
        have hb3' := below_step hb3 hb2'
        go_wp2_with fail
        go_ret
        exact ⟨ret_bool (by rw [hf.out]; simp [hk]; omega), hb3'⟩
    · have hk' : (c.kind == 3) = false := by simpa using hk
      go_wp2_with fail
      go_ret
      exact ⟨ret_bool (by rw [hf.out]; simp [hk]), hb1⟩
end Go.Proofs.YtbcambjonjhopaaGreat
