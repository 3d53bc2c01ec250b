/-
  Layer 7, the document: atoms; may a clause be; safe and right clauses.
  Layer 7: safe and right clauses (the document); an atom, its predicate (both sides).
  Layer 7, the document: right clauses; places, and the clauses of a predicate; links that are there; rows of numbers and of links alike.
-/
import Derived.Test.YtadbdmnngmlnhaaPgC
import Derived.Deep.Cut
import Derived.StillTailTactics
import Derived.BigQuiet
import Derived.Deep.RegionHeld3
namespace Go.Proofs.Ytadbdmnngmlnhaa
section
open Go Go.RowKit

def RowA (T : TypeId) (w : World) (B : Nat) (vs : List Value) : Prop := Row T w B vs
theorem RowA.at {T : TypeId} {W w' : World} {B : Nat} {vs : List Value} (h : RowA T W B vs) (hb : Below W.heap.size W w') : RowA T w' B vs := rowTo h hb
theorem RowA.row {T : TypeId} {W : World} {B : Nat} {vs : List Value} (h : RowA T W B vs) : Row T W B vs := h
theorem Drew.belowS {w w' : World} (h : Drew w w') : Below w.heap.size w w' := h.below _

theorem atomB_false {t : List Cell} (h : rightT t = false) : atomB t = false := by unfold atomB; rw [h]; rfl
theorem atomB_kind {t : List Cell} (h : rightT t = true) (hl : 0 < t.length) : atomB t = decide (t[0].kind = 3) := by
  unfold atomB; rw [h, Bool.true_and]
  cases t with
  | nil => simp at hl
  | cons c l => rfl
theorem atomB_right {t : List Cell} (h : atomB t = true) : RightT t := by
  unfold atomB rightT at h; rw [Bool.and_eq_true] at h; exact of_decide_eq_true h.1

set_option maxHeartbeats 1600000 in
theorem AtomR07_spec {S : Nat → Prop} {w : World} {v : Value} {t : List Cell} (ht : Seq cellE S w v t) :
    Calls Try.prog 32 #[v] w (RetV (.bool (atomB t)) w) := by
  have Ht := Lib.hid ht
  obtain ⟨ta, tc, rfl, -⟩ := ht
  go_enter Try.func32, Try.ntmps32
  go_wp2_with fail
  refine (RightR_spec (Ht.out.at Seq.way)).mono ?_
  rintro e w1 ⟨rfl, hb⟩
  have Hb := Lib.hid hb
  cases hr : rightT t with
  | false =>
    have he := Lib.hid (atomB_false hr)
    clear hr hb
    go_wp2_with fail
    go_ret
    exact ⟨ret_bool he.out.symm, Hb.out⟩
  | true =>
    have hl0 := (of_decide_eq_true hr : RightT t).pos
    have he := Lib.hid (atomB_kind hr hl0)
    obtain ⟨_, _, ee, -, -, -, -, x5⟩ := Ht.out.at hb
    simp only [Value.slice.injEq, true_and] at ee
    obtain ⟨rfl, rfl⟩ := ee
    obtain ⟨b, o, rfl, -, l1, c0, -⟩ := x5.cell hl0
    simp only [Nat.zero_mul, Nat.add_zero] at c0
    have hll : (0 : Int) < (t.length : Int) := by omega
    obtain ⟨c, hc⟩ : ∃ c, c = t[0] := ⟨_, rfl⟩
    rw [← hc] at c0 he
    clear hc hr hb x5
    go_wp2_with fail
    go_ret
    refine ⟨ret_bool ?_, Hb.out⟩
    rw [he.out]
    rfl

/-- The first literals are atoms. -/
def AtomsTo (l : List Lit) (k : Nat) : Prop := ∀ j b, j < k → l[j]? = some b → atomB b.t = true
theorem atomsTo_succ {l : List Lit} {k : Nat} (h : AtomsTo l k) (hk : k < l.length) (ha : atomB l[k].t = true) : AtomsTo l (k + 1) := fun j b hj hb => by
  by_cases e : j = k
  · subst e; rw [List.getElem?_eq_getElem hk] at hb; exact Option.some.inj hb ▸ ha
  · exact h j b (by omega) hb
theorem atomsTo_all {l : List Lit} (h : AtomsTo l l.length) : (l.all fun b => atomB b.t) = true := List.all_eq_true.2 fun b hb => by
  obtain ⟨j, hj, rfl⟩ := List.mem_iff_getElem.1 hb
  exact h j _ hj (List.getElem?_eq_getElem hj)
theorem mayC_not {c : Cls} {k : Nat} (hk : k < c.body.length) (h : atomB c.body[k].t = false) : mayC c = false := by
  unfold mayC
  have : (c.body.all fun b => atomB b.t) = false := List.all_eq_false.2 ⟨c.body[k], List.getElem_mem hk, by simp [h]⟩
  rw [this]; rfl
theorem mayC_end {c : Cls} (h : AtomsTo c.body c.body.length) : mayC c = (atomB c.head && decide (c.body.length ≤ 8)) := by
  unfold mayC; rw [atomsTo_all h, Bool.true_and]

set_option maxHeartbeats 3200000 in
set_option maxRecDepth 100000 in
theorem MayR_spec {S : Nat → Prop} {w : World} {v : Value} {c : Cls} (hc : ClsV S w v c) :
    Calls Try.prog 28 #[v] w (RetV (.bool (mayC c)) w) := by
  obtain ⟨ha, hcp, la, lc, rfl, h1, h2⟩ := hc
  obtain ⟨W, hW⟩ : ∃ W, W = w.alloc (.cells #[.slice ha c.head.length hcp, .slice la c.body.length lc] 31) := ⟨_, rfl⟩
  have hbW : Below w.heap.size w W := by rw [hW]; exact Seq.way
  have HR := Lib.hid (show RowA 31 W w.heap.size [.slice ha c.head.length hcp, .slice la c.body.length lc] by rw [hW]; exact Row.new w [_, _] _ rfl)
  have HH := Lib.hid (h1.at hbW)
  have HL := Lib.hid (h2.at hbW)
  have HBW := Lib.hid hbW
  have HW := Lib.hid hW
  have hbl : c.body.length ≤ 140737488355328 := by obtain ⟨_, _, _, _, _, h, _⟩ := h2; exact h
  clear hW hbW h1 h2
  go_enter Try.func28, Try.ntmps28
  go_upto_region 1 with fail
  rw [← HW.out]
  have hfL := fun {w' : World} (h : Below W.heap.size W w') => Lib.hid (HL.out.at h)
  have hfR := fun {w' : World} (h : Below W.heap.size W w') => Lib.hid (show w'.cell? ⟨w.heap.size, 0, none⟩ = some (.slice ha c.head.length hcp) ∧ w'.cell? ⟨w.heap.size, 1, none⟩ = some (.slice la c.body.length lc) from ⟨(HR.out.at h).row.cell (j := 0) (by simp), (HR.out.at h).row.cell (j := 1) (by simp)⟩)
  go_wp2_with fail
  go_loopw [3] (fun i wr => ∃ k : Nat, k ≤ c.body.length ∧ i = .int .i64 k ∧ Hid (AtomsTo c.body k) ∧ Hid (Below W.heap.size W wr)) (fun i _ => c.body.length - (intOf i).toNat)
  case atStart => exact ⟨0, Nat.zero_le _, rfl, Lib.hid (fun j b hj _ => by omega), Lib.hid (Below.refl _ _)⟩
  case round =>
    obtain ⟨k, hk, rfl, hA, hbr⟩ := hrel
    obtain ⟨r0, r1⟩ := (hfR hbr.out).out
    by_cases hlt : k < c.body.length
    · obtain ⟨_, _, ee, -, -, -, -, x5⟩ := (hfL hbr.out).out
      simp only [Value.slice.injEq, true_and] at ee
      obtain ⟨rfl, rfl⟩ := ee
      obtain ⟨b1, o1, p1, n1, rfl, -, l1, -, c1, hX⟩ := x5.lit hlt
      have HX := Lib.hid hX
      have hy := Lib.hid (fun h => atomsTo_succ hA.out hlt h)
      have hn := Lib.hid (fun h => mayC_not hlt h)
      obtain ⟨x, hx⟩ : ∃ x, x = c.body[k].t := ⟨_, rfl⟩
      rw [← hx] at c1 HX hy hn
      have hkl : (k : Int) < (c.body.length : Int) := by omega
      have hk0 : (0 : Int) ≤ (k : Int) := by omega
      clear hx x5 hX
      go_wp2_with fail
      refine (AtomR07_spec (HX.out.at Seq.way)).mono ?_
      rintro e y1 ⟨rfl, hb1⟩
      have Hb1 := Lib.hid (below_step (below_step hb1 Seq.way) hbr.out)
      clear hb1 c1 r0 r1
      cases he : atomB x with
      | true =>
        have hy' := Lib.hid (hy.out he)
        clear hy hn he
        go_wp2_with fail
        go_roundw
        case rel => exact ⟨k + 1, hlt, by go_num, hy', Lib.hid (below_step Seq.way Hb1.out)⟩
        case measure => simp [intOf]; omega
      | false =>
        have hn' := Lib.hid (hn.out he)
        clear hy hn he
        go_wp2_with fail
        go_ret
        exact ⟨ret_bool hn'.out.symm, below_step Hb1.out HBW.out⟩
    · obtain rfl : k = c.body.length := by omega
      have hm := Lib.hid (mayC_end hA.out)
      have HHr := Lib.hid (HH.out.at hbr.out)
      clear hlt
      go_wp2_with fail
      refine (AtomR07_spec (HHr.out.at Seq.way)).mono ?_
      rintro e y1 ⟨rfl, hb1⟩
      have Hb1 := Lib.hid (below_step (below_step hb1 Seq.way) hbr.out)
      obtain ⟨q0, q1⟩ := (hfR Hb1.out).out
      clear hb1 r0 r1
      cases he : atomB c.head with
      | false =>
        rw [he] at hm
        clear he
        go_wp2_with fail
        go_ret
        exact ⟨ret_bool (by rw [hm.out]; rfl), below_step Hb1.out HBW.out⟩
      | true =>
        rw [he] at hm
        clear he
        go_wp2_with fail
        go_ret
        refine ⟨ret_bool ?_, below_step Hb1.out HBW.out⟩
        rw [hm.out, Bool.true_and]
        simp
        omega

theorem withinI_not {a b : List Int} {k : Nat} (hk : k < a.length) (h : ¬ a[k] ∈ b) : withinI a b = false := List.all_eq_false.2 ⟨a[k], List.getElem_mem hk, by simp [h]⟩
theorem withinI_all {a b : List Int} (h : ∀ (j : Nat) x, j < a.length → a[j]? = some x → x ∈ b) : withinI a b = true := List.all_eq_true.2 fun x hx => by
  obtain ⟨j, hj, rfl⟩ := List.mem_iff_getElem.1 hx
  exact decide_eq_true (h j _ hj (List.getElem?_eq_getElem hj))

set_option maxHeartbeats 1600000 in
theorem WithinR_spec {S T : Nat → Prop} {w : World} {v u : Value} {a b : List Int} (ha : Seq intE S w v a) (hb : Seq intE T w u b) :
    Calls Try.prog 43 #[v, u] w (QuietV (.bool (withinI a b)) w) := by
  have Hb := Lib.hid hb
  obtain ⟨aa, ac, rfl, -, -, hal, -, ha5⟩ := ha
  obtain ⟨ba, bc, rfl, -⟩ := hb
  have hA := Lib.hid ha5
  clear ha5
  go_enter Try.func43, Try.ntmps43
  go_wp2_with fail
  go_loopw [5] (fun i wr => ∃ k : Nat, k ≤ a.length ∧ i = .int .i64 k ∧ Hid (∀ (j : Nat) x, j < k → a[j]? = some x → x ∈ b) ∧ Drew w wr) (fun i _ => a.length - (intOf i).toNat)
  case atStart => exact ⟨0, Nat.zero_le _, rfl, Lib.hid (fun j x h _ => by omega), Drew.refl _⟩
  case round =>
    obtain ⟨k, hk, rfl, hno, hdr⟩ := hrel
    obtain ⟨q, rfl⟩ := hdr
    by_cases hlt : k < a.length
    · obtain ⟨b1, o1, rfl, -, -, c0, -⟩ := hA.out.int hlt
      have hy := Lib.hid (show a[k] ∈ b → ∀ (j : Nat) x, j < k + 1 → a[j]? = some x → x ∈ b from fun h j x hj hx => by
        by_cases e : j = k
        · subst e; rw [List.getElem?_eq_getElem hlt] at hx; exact Option.some.inj hx ▸ h
        · exact hno.out j x (by omega) hx)
      have hn := Lib.hid (fun h => withinI_not hlt h : ¬ a[k] ∈ b → withinI a b = false)
      obtain ⟨x, hx⟩ : ∃ x, x = a[k] := ⟨_, rfl⟩
      rw [← hx] at c0 hy hn
      have hkl : (k : Int) < (a.length : Int) := by omega
      have hk0 : (0 : Int) ≤ (k : Int) := by omega
      clear hx
      go_wp2_with fail
      refine (InT_spec (n := x) (Hb.out.at Seq.way)).mono ?_
      rintro e y1 ⟨rfl, rfl⟩
      by_cases hm : x ∈ b
      · have hd := decide_eq_true hm
        rw [hd]
        have hy' := Lib.hid (hy.out hm)
        clear hy hn hm hd c0
        go_wp2_with fail
        go_roundw
        case rel => exact ⟨k + 1, hlt, by go_num, hy', (by repeat (first | exact Drew.of _ _ | refine Drew.drewN ?_ _))⟩
        case measure => simp [intOf]; omega
      · have hd := decide_eq_false hm
        rw [hd]
        have hn' := Lib.hid (hn.out hm)
        clear hy hn hm hd c0
        go_wp2_with fail
        go_ret
        exact ⟨ret_bool hn'.out.symm, (by repeat (first | exact Drew.of _ _ | refine Drew.drewN ?_ _))⟩
    · obtain rfl : k = a.length := by omega
      have hy' := Lib.hid (withinI_all hno.out)
      clear hno hlt
      go_wp2_with fail
      go_ret
      exact ⟨ret_bool hy'.out.symm, (by repeat (first | exact Drew.of _ _ | refine Drew.drewN ?_ _))⟩
end
section
open Go Go.RowKit

set_option maxHeartbeats 1600000 in
theorem AtomP_spec {S : Nat → Prop} {w : World} {v : Value} {t : List Cell} (ht : Seq cellE S w v t) :
    Calls Try.prog 38 #[v] w (RetV (.bool (atomB t)) w) := by
  have Ht := Lib.hid ht
  obtain ⟨ta, tc, rfl, -⟩ := ht
  go_enter Try.func38, Try.ntmps38
  go_wp2_with fail
  refine (RightP_spec (Ht.out.at Seq.way)).mono ?_
  rintro e w1 ⟨rfl, hb⟩
  have Hb := Lib.hid hb
  cases hr : rightT t with
  | false =>
    have he := Lib.hid (atomB_false hr)
    clear hr hb
    go_wp2_with fail
    go_ret
    exact ⟨ret_bool he.out.symm, Hb.out⟩
  | true =>
    have hl0 := (of_decide_eq_true hr : RightT t).pos
    have he := Lib.hid (atomB_kind hr hl0)
    obtain ⟨_, _, ee, -, -, -, -, x5⟩ := Ht.out.at hb
    simp only [Value.slice.injEq, true_and] at ee
    obtain ⟨rfl, rfl⟩ := ee
    obtain ⟨b, o, rfl, -, l1, c0, -⟩ := x5.cell hl0
    simp only [Nat.zero_mul, Nat.add_zero] at c0
    have hll : (0 : Int) < (t.length : Int) := by omega
    obtain ⟨c, hc⟩ : ∃ c, c = t[0] := ⟨_, rfl⟩
    rw [← hc] at c0 he
    clear hc hr hb x5
    go_wp2_with fail
    go_ret
    refine ⟨ret_bool ?_, Hb.out⟩
    rw [he.out]
    rfl

def prdV (p : Prd) : Value := .agg #[.string p.name, .int .i64 p.n]
theorem prT_head {t : List Cell} (h : 0 < t.length) : prT t = ⟨t[0].name, t[0].n⟩ := by
  cases t with
  | nil => simp at h
  | cons c l => rfl
set_option maxHeartbeats 1600000 in
set_option maxRecDepth 100000 in
theorem PredR_spec {S : Nat → Prop} {w : World} {v : Value} {t : List Cell} (ht : Seq cellE S w v t) (hl : 0 < t.length) :
    Calls Try.prog 35 #[v] w (RetV (prdV (prT t)) w) := by
  obtain ⟨ta, tc, rfl, -, -, -, -, x5⟩ := ht
  obtain ⟨b, o, rfl, -, l1, c0, c1, c2, -⟩ := x5.cell hl
  simp only [Nat.zero_mul, Nat.add_zero] at c0 c1 c2
  have he := Lib.hid (prT_head hl)
  have hll : (0 : Int) < (t.length : Int) := by omega
  obtain ⟨c, hc⟩ : ∃ c, c = t[0] := ⟨_, rfl⟩
  rw [← hc] at c0 c1 c2 he
  obtain ⟨W, hW⟩ : ∃ W, W = w.alloc (.cells #[.string ⟨#[]⟩, .int .i64 0] 24) := ⟨_, rfl⟩
  have hbW : Below w.heap.size w W := by rw [hW]; exact Seq.way
  have HR := Lib.hid (show Row 24 W w.heap.size [.string ⟨#[]⟩, .int .i64 0] by rw [hW]; exact Row.new w [_, _] _ rfl)
  replace c1 : W.cell? ⟨b, o + 1, none⟩ = _ := (hbW.cell (p := ⟨b, o + 1, none⟩) l1).trans c1
  replace c2 : W.cell? ⟨b, o + 2, none⟩ = _ := (hbW.cell (p := ⟨b, o + 2, none⟩) l1).trans c2
  have r0 : W.cell? ⟨w.heap.size, 0, none⟩ = some (.string ⟨#[]⟩) := HR.out.cell (j := 0) (by simp)
  have r1 : W.cell? ⟨w.heap.size, 1, none⟩ = some (.int .i64 0) := HR.out.cell (j := 1) (by simp)
  have f0 : W.frozen? ⟨w.heap.size, 0, none⟩ = false := HR.out.frozen 0
  have f1 : W.frozen? ⟨w.heap.size, 1, none⟩ = false := HR.out.frozen 1
  have hz : w.heap.size < W.heap.size := HR.out.lt
  have HW := Lib.hid hW
  have HBW := Lib.hid hbW
  clear hW hbW hc x5 c0
  go_enter Try.func35, Try.ntmps35
  go_upto_region 1 with fail
  rw [← HW.out]
  go_still_tail 9, (by kernel_rfl)
  go_wp2_with fail
  have g0 := HR.out.set 0 (.string c.name)
  have s0 : (W.setCell ⟨w.heap.size, 0, none⟩ (.string c.name)).cell? ⟨w.heap.size, 0, none⟩ = some (.string c.name) := g0.cell (j := 0) (by simp)
  have s1 : ((W.setCell ⟨w.heap.size, 0, none⟩ (.string c.name)).setCell ⟨w.heap.size, 1, none⟩ (.int .i64 c.n)).cell? ⟨w.heap.size, 1, none⟩ = some (.int .i64 c.n) := (g0.set 1 _).cell (j := 1) (by simp)
  refine bodyPost_ret (v := .agg #[.string c.name, .int .i64 c.n]) (by simp [results, Try.results35, go_sem, s0, s1]) rfl ?_
  exact ⟨by rw [he.out]; rfl, ((HBW.out.setCell (Nat.le_refl _) _).setCell (Nat.le_refl _) _).drew⟩
set_option maxHeartbeats 1600000 in
set_option maxRecDepth 100000 in
theorem PredP_spec {S : Nat → Prop} {w : World} {v : Value} {t : List Cell} (ht : Seq cellE S w v t) (hl : 0 < t.length) :
    Calls Try.prog 49 #[v] w (RetV (prdV (prT t)) w) := by
  obtain ⟨ta, tc, rfl, -, -, -, -, x5⟩ := ht
  obtain ⟨b, o, rfl, -, l1, c0, c1, c2, -⟩ := x5.cell hl
  simp only [Nat.zero_mul, Nat.add_zero] at c0 c1 c2
  have he := Lib.hid (prT_head hl)
  have hll : (0 : Int) < (t.length : Int) := by omega
  obtain ⟨c, hc⟩ : ∃ c, c = t[0] := ⟨_, rfl⟩
  rw [← hc] at c0 c1 c2 he
  obtain ⟨W, hW⟩ : ∃ W, W = w.alloc (.cells #[.string ⟨#[]⟩, .int .i64 0] 24) := ⟨_, rfl⟩
  have hbW : Below w.heap.size w W := by rw [hW]; exact Seq.way
  have HR := Lib.hid (show Row 24 W w.heap.size [.string ⟨#[]⟩, .int .i64 0] by rw [hW]; exact Row.new w [_, _] _ rfl)
  replace c1 : W.cell? ⟨b, o + 1, none⟩ = _ := (hbW.cell (p := ⟨b, o + 1, none⟩) l1).trans c1
  replace c2 : W.cell? ⟨b, o + 2, none⟩ = _ := (hbW.cell (p := ⟨b, o + 2, none⟩) l1).trans c2
  have r0 : W.cell? ⟨w.heap.size, 0, none⟩ = some (.string ⟨#[]⟩) := HR.out.cell (j := 0) (by simp)
  have r1 : W.cell? ⟨w.heap.size, 1, none⟩ = some (.int .i64 0) := HR.out.cell (j := 1) (by simp)
  have f0 : W.frozen? ⟨w.heap.size, 0, none⟩ = false := HR.out.frozen 0
  have f1 : W.frozen? ⟨w.heap.size, 1, none⟩ = false := HR.out.frozen 1
  have hz : w.heap.size < W.heap.size := HR.out.lt
  have HW := Lib.hid hW
  have HBW := Lib.hid hbW
  clear hW hbW hc x5 c0
  go_enter Try.func49, Try.ntmps49
  go_upto_region 1 with fail
  rw [← HW.out]
  go_still_tail 9, (by kernel_rfl)
  go_wp2_with fail
  have g0 := HR.out.set 0 (.string c.name)
  have s0 : (W.setCell ⟨w.heap.size, 0, none⟩ (.string c.name)).cell? ⟨w.heap.size, 0, none⟩ = some (.string c.name) := g0.cell (j := 0) (by simp)
  have s1 : ((W.setCell ⟨w.heap.size, 0, none⟩ (.string c.name)).setCell ⟨w.heap.size, 1, none⟩ (.int .i64 c.n)).cell? ⟨w.heap.size, 1, none⟩ = some (.int .i64 c.n) := (g0.set 1 _).cell (j := 1) (by simp)
  refine bodyPost_ret (v := .agg #[.string c.name, .int .i64 c.n]) (by simp [results, Try.results49, go_sem, s0, s1]) rfl ?_
  exact ⟨by rw [he.out]; rfl, ((HBW.out.setCell (Nat.le_refl _) _).setCell (Nat.le_refl _) _).drew⟩

theorem safeB_step {l : List Lit} {k : Nat} (hk : k < l.length) (bound : List Int) : safeB bound (l.drop k) = if (l[k].neg && !withinI (varsL l[k].t) bound) = true then none else safeB (bound ++ varsL l[k].t) (l.drop (k + 1)) := by
  rw [List.drop_eq_getElem_cons hk]; rfl
theorem mayC_parts {c : Cls} (h : mayC c = true) : (∀ b ∈ c.body, RightT b.t) ∧ RightT c.head ∧ c.body.length ≤ 8 := by
  unfold mayC at h
  simp only [Bool.and_eq_true, decide_eq_true_eq, List.all_eq_true] at h
  exact ⟨fun b hb => atomB_right (h.1.1 b hb), atomB_right h.1.2, h.2⟩

set_option maxHeartbeats 3200000 in
set_option maxRecDepth 100000 in
theorem SafeR_spec {S : Nat → Prop} {w : World} {v : Value} {c : Cls} (hc : ClsV S w v c) :
    Calls Try.prog 14 #[v] w (RetV (.bool (safeC c)) w) := by
  have HV := Lib.hid hc
  obtain ⟨ha, hcp, la, lc, rfl, h1, h2⟩ := hc
  obtain ⟨W, hW⟩ : ∃ W, W = w.alloc (.cells #[.slice ha c.head.length hcp, .slice la c.body.length lc] 31) := ⟨_, rfl⟩
  have hbW : Below w.heap.size w W := by rw [hW]; exact Seq.way
  have HR := Lib.hid (show RowA 31 W w.heap.size [.slice ha c.head.length hcp, .slice la c.body.length lc] by rw [hW]; exact Row.new w [_, _] _ rfl)
  have HH := Lib.hid (h1.at hbW)
  have HL := Lib.hid (h2.at hbW)
  have HV := Lib.hid (HV.out.at hbW)
  have HBW := Lib.hid hbW
  have HW := Lib.hid hW
  clear hW hbW h1 h2
  go_enter Try.func14, Try.ntmps14
  go_upto_region 1 with fail
  rw [← HW.out]
  have hfL := fun {w' : World} (h : Below W.heap.size W w') => Lib.hid (HL.out.at h)
  have hfR := fun {w' : World} (h : Below W.heap.size W w') => Lib.hid (show w'.cell? ⟨w.heap.size, 0, none⟩ = some (.slice ha c.head.length hcp) ∧ w'.cell? ⟨w.heap.size, 1, none⟩ = some (.slice la c.body.length lc) from ⟨(HR.out.at h).row.cell (j := 0) (by simp), (HR.out.at h).row.cell (j := 1) (by simp)⟩)
  obtain ⟨r0, r1⟩ := (hfR (Below.refl _ W)).out
  go_wp2_with fail
  refine (MayR_spec HV.out).mono ?_
  rintro e w1 ⟨rfl, hb⟩
  have HB1 := Lib.hid hb
  clear hb r0 r1
  cases hm : mayC c with
  | false =>
    have hs := Lib.hid (show safeC c = false by unfold safeC; rw [hm]; rfl)
    clear hm
    go_wp2_with fail
    go_ret
    exact ⟨ret_bool hs.out.symm, below_step HB1.out HBW.out⟩
  | true =>
    have hs := Lib.hid (show safeC c = (match safeB [] c.body with | none => false | some bound => withinI (varsL c.head) bound) by unfold safeC; rw [hm]; rfl)
    obtain ⟨m1, m2, m3⟩ := mayC_parts hm
    have hM := Lib.hid m1
    have hHd := Lib.hid m2
    clear hm m1 m2
    go_wp2_with fail
    go_loopw [3, 4] (fun o i wr => ∃ (k : Nat) (bound : List Int), k ≤ c.body.length ∧ i = .int .i64 k ∧ bound.length ≤ 200 * k ∧ Hid (safeB [] c.body = safeB bound (c.body.drop k)) ∧ Hid (Own intE (fun _ => True) W.heap.size 3 wr o bound) ∧ Hid (Below W.heap.size W wr)) (fun _ i _ => c.body.length - (intOf i).toNat)
    case atStart => exact ⟨0, [], Nat.zero_le _, rfl, by simp, Lib.hid rfl, Lib.hid (Own.lit0 rfl HB1.out.size rfl), Lib.hid (below_step Seq.way HB1.out)⟩
    case round =>
      obtain ⟨k, bound, hk, rfl, hbd, hS, hO, hbr⟩ := hrel
      obtain ⟨r0, r1⟩ := (hfR hbr.out).out
      have hzr := hbr.out.size
      by_cases hlt : k < c.body.length
      · obtain ⟨_, _, ee, -, -, -, -, x5⟩ := (hfL hbr.out).out
        simp only [Value.slice.injEq, true_and] at ee
        obtain ⟨rfl, rfl⟩ := ee
        obtain ⟨b1, o1, p1, n1, rfl, -, l1, c0, c1, hX⟩ := x5.lit hlt
        have HX := Lib.hid hX
        have hst := Lib.hid (safeB_step hlt bound)
        have hxr := (hM.out _ (List.getElem_mem hlt)).1
        obtain ⟨x, hx⟩ : ∃ x, x = c.body[k].t := ⟨_, rfl⟩
        obtain ⟨ng, hng⟩ : ∃ x, x = c.body[k].neg := ⟨_, rfl⟩
        rw [← hx] at c1 HX hst hxr
        rw [← hng] at c0 hst
        have hkl : (k : Int) < (c.body.length : Int) := by omega
        have hk0 : (0 : Int) ≤ (k : Int) := by omega
        clear hx hng x5 hX
        go_wp2_with fail
        refine (VarsR_spec (HX.out.at Seq.way) (by omega)).mono ?_
        rintro e y1 ⟨v1, rfl, hb1, hs1⟩
        replace hb1 := below_step hb1 (Seq.way : Below wr.heap.size wr _)
        have hvl := varsL_len x
        obtain ⟨V, hV⟩ : ∃ V, V = varsL x := ⟨_, rfl⟩
        rw [← hV] at hs1 hst hvl
        have HVs := Lib.hid (show Seq intE (fun b => wr.heap.size ≤ b) y1 v1 V from hs1.mono (fun b h _ => by simpa using h) fun _ _ _ => rfl)
        obtain ⟨va, vc, rfl⟩ := hs1.shape
        have Hb1 := Lib.hid hb1
        have HB1' := Lib.hid (below_step hb1 hbr.out)
        obtain ⟨q0, q1⟩ := (hfR HB1'.out).out
        have d0 : y1.cell? ⟨b1, o1 + k * 2, none⟩ = _ := (hb1.cell (p := ⟨b1, o1 + k * 2, none⟩) l1).trans c0
        have HOs := Lib.hid ((hO.out.seq (T := fun _ => True) (by omega) fun _ _ _ => trivial).at hb1)
        clear hs1 hb1 hV c0 c1 r0 r1
        cases ng with
        | false =>
          have hst' := Lib.hid (show safeB bound (c.body.drop k) = safeB (bound ++ V) (c.body.drop (k + 1)) by rw [hst.out]; rfl)
          clear hst
          go_wp2_with (at_builtin; (refine wpList_appL (S := fun _ => True) (base := W.heap.size) (wm := wr) (zs := bound ++ V) rfl _ _ 33 rfl Try.underlying33 infoInt rfl rfl hO.out (below_step Seq.way Hb1.out) rfl (HVs.out.at Seq.way) (fun b h _ => ⟨trivial, .inr h⟩) rfl (by omega) (by simp; omega) hzr ?_))
          intro oa5 oc5 w5 hown5 hk5
          have H5 := Lib.hid hown5
          have K5 := Lib.hid (hbr.out.trans (Below.trans (Below.mono (below_step (Seq.way : Below y1.heap.size y1 _) Hb1.out) hzr) hk5.below))
          clear hown5 hk5
          go_wp2_with fail
          go_roundw
          case rel => exact ⟨k + 1, bound ++ V, hlt, by go_num, by simp; omega, Lib.hid (hS.out.trans hst'.out), H5, K5⟩
          case measure => simp [intOf]; omega
        | true =>
          obtain ⟨oa, oc, rfl⟩ := HOs.out.shape
          go_wp2_with fail
          refine (WithinR_spec (HVs.out.at Seq.way) (HOs.out.at Seq.way)).mono ?_
          rintro e y2 ⟨rfl, hq⟩
          have hb2 := below_step hq.belowS (Seq.way : Below y1.heap.size y1 _)
          have Hb2 := Lib.hid (below_step hb2 Hb1.out)
          have HB2' := Lib.hid (below_step hb2 HB1'.out)
          have HVz := Lib.hid (HVs.out.at hb2)
          clear hq hb2 d0 q0 q1
          cases hwi : withinI V bound with
          | false =>
            have hfin := Lib.hid (show safeC c = false by rw [hs.out, hS.out, hst.out, hwi]; rfl)
            clear hst hwi
            go_wp2_with fail
            go_ret
            exact ⟨ret_bool hfin.out.symm, below_step HB2'.out HBW.out⟩
          | true =>
            have hst' := Lib.hid (show safeB bound (c.body.drop k) = safeB (bound ++ V) (c.body.drop (k + 1)) by rw [hst.out, hwi]; rfl)
            clear hst hwi
            go_wp2_with (at_builtin; (refine wpList_appL (S := fun _ => True) (base := W.heap.size) (wm := wr) (zs := bound ++ V) rfl _ _ 33 rfl Try.underlying33 infoInt rfl rfl hO.out (below_step Seq.way Hb2.out) rfl (HVz.out.at Seq.way) (fun b h _ => ⟨trivial, .inr h⟩) rfl (by omega) (by simp; omega) hzr ?_))
            intro oa5 oc5 w5 hown5 hk5
            have H5 := Lib.hid hown5
            have K5 := Lib.hid (hbr.out.trans (Below.trans (Below.mono (below_step (Seq.way : Below y2.heap.size y2 _) Hb2.out) hzr) hk5.below))
            clear hown5 hk5
            go_wp2_with fail
            go_roundw
            case rel => exact ⟨k + 1, bound ++ V, hlt, by go_num, by simp; omega, Lib.hid (hS.out.trans hst'.out), H5, K5⟩
            case measure => simp [intOf]; omega
      · obtain rfl : k = c.body.length := by omega
        have hfin := Lib.hid (show safeC c = withinI (varsL c.head) bound by rw [hs.out, hS.out, List.drop_length]; rfl)
        have HOs := Lib.hid (hO.out.seq (T := fun _ => True) (by omega) fun _ _ _ => trivial)
        obtain ⟨oa, oc, rfl⟩ := HOs.out.shape
        have HHr := Lib.hid (HH.out.at hbr.out)
        have hhr := hHd.out.1
        clear hlt
        go_wp2_with fail
        refine (VarsR_spec (HHr.out.at Seq.way) (by omega)).mono ?_
        rintro e y1 ⟨v1, rfl, hb1, hs1⟩
        obtain ⟨va, vc, rfl⟩ := hs1.shape
        replace hb1 := below_step hb1 (Seq.way : Below wr.heap.size wr _)
        have HVs := Lib.hid hs1
        have HOz := Lib.hid (HOs.out.at hb1)
        have HB1' := Lib.hid (below_step hb1 hbr.out)
        clear hs1 hb1 r0 r1
        go_wp2_with fail
        refine (WithinR_spec (HVs.out.at Seq.way) (HOz.out.at Seq.way)).mono ?_
        rintro e y2 ⟨rfl, hq⟩
        have hb2 := Lib.hid (below_step (below_step hq.belowS (Seq.way : Below y1.heap.size y1 _)) HB1'.out)
        clear hq
        go_wp2_with fail
        go_ret
        exact ⟨ret_bool hfin.out.symm, below_step hb2.out HBW.out⟩
end
section
open Go Go.RowKit

theorem prd_ne {x y : Prd} (h : ¬ x = y) : (x.name.toList == y.name.toList) = false ∨ ((x.name.toList == y.name.toList) = true ∧ (x.n == y.n) = false) := by
  by_cases h1 : x.name.toList = y.name.toList
  · refine .inr ⟨by simp [h1], ?_⟩
    have h2 : x.n ≠ y.n := fun e => h (by cases x; cases y; simp at *; exact ⟨toList_inj h1, e⟩)
    simpa using h2
  · exact .inl (by simpa using h1)
theorem lnk_ne {x y : Lnk} (h : ¬ x = y) : ((x.fr : Int) == (y.fr : Int)) = false ∨ (((x.fr : Int) == (y.fr : Int)) = true ∧ ((x.to : Int) == (y.to : Int)) = false) ∨ (((x.fr : Int) == (y.fr : Int)) = true ∧ ((x.to : Int) == (y.to : Int)) = true ∧ (x.neg == y.neg) = false) := by
  by_cases h1 : x.fr = y.fr
  · by_cases h2 : x.to = y.to
    · refine .inr (.inr ⟨by simp [h1], by simp [h2], ?_⟩)
      have h3 : x.neg ≠ y.neg := fun e => h (by cases x; cases y; simp at *; exact ⟨h1, h2, e⟩)
      simpa using h3
    · exact .inr (.inl ⟨by simp [h1], by simp; omega⟩)
  · exact .inl (by simp; omega)

set_option maxHeartbeats 1600000 in
set_option maxRecDepth 100000 in
theorem IntsR_spec {S T : Nat → Prop} {w : World} {v u : Value} {a b : List Int} (ha : Seq intE S w v a) (hb : Seq intE T w u b) :
    Calls Try.prog 22 #[v, u] w (QuietV (.bool (decide (a = b))) w) := by
  obtain ⟨aa, ac, rfl, -, -, hal, -, ha5⟩ := ha
  obtain ⟨ba, bc, rfl, -, -, hbl, -, hb5⟩ := hb
  go_enter Try.func22, Try.ntmps22
  by_cases hl : a.length = b.length
  · have hl' : ((a.length : Int) != (b.length : Int)) = false := by simp [hl]
    have Hl := Lib.hid hl
    clear hl
    go_wp2_with fail
    go_loopw [5] (fun i wr => ∃ k : Nat, k ≤ a.length ∧ i = .int .i64 k ∧ Hid (∀ j, j < k → a[j]? = b[j]?) ∧ Drew w wr) (fun i _ => a.length - (intOf i).toNat)
    case atStart => exact ⟨0, Nat.zero_le _, rfl, Lib.hid (by simp), Drew.refl _⟩
    case round =>
      obtain ⟨k, hk, rfl, hno, hdr⟩ := hrel
      obtain ⟨q, rfl⟩ := hdr
      by_cases hka : k < a.length
      · have hkb : k < b.length := by rw [← Hl.out]; exact hka
        obtain ⟨b1, o1, rfl, -, -, c0, -⟩ := ha5.int hka
        obtain ⟨b2, o2, rfl, -, -, d0, -⟩ := hb5.int hkb
        have hx := Lib.hid (show a[k] = b[k] → ∀ j, j < k + 1 → a[j]? = b[j]? from fun h j hj => by
          by_cases e : j = k
          · subst e; rw [List.getElem?_eq_getElem hka, List.getElem?_eq_getElem hkb, h]
          · exact hno.out j (by omega))
        have hn := Lib.hid (show a[k] ≠ b[k] → decide (a = b) = false from fun h => decide_eq_false fun e => by subst e; exact h rfl)
        clear ha5 hb5
        obtain ⟨x, hxe⟩ : ∃ x, x = a[k] := ⟨_, rfl⟩
        obtain ⟨y, hye⟩ : ∃ y, y = b[k] := ⟨_, rfl⟩
        rw [← hxe] at c0 hx hn
        rw [← hye] at d0 hx hn
        clear hxe hye
        have hkl : (k : Int) < (a.length : Int) := by omega
        have hkm : (k : Int) < (b.length : Int) := by omega
        have hk0 : (0 : Int) ≤ (k : Int) := by omega
        by_cases he : x = y
        · have hx' := Lib.hid (hx.out he)
          subst he
          clear hx hn
          go_wp2_with fail
          go_quiet (fail)
          go_wp2_with fail
          go_roundw
          case rel => exact ⟨k + 1, hka, by go_num, hx', (by repeat (first | exact Drew.of _ _ | refine Drew.drewN ?_ _))⟩
          case measure => simp [intOf]; omega
        · have hn' := Lib.hid (hn.out he)
          have hne : (x != y) = true := by simp [he]
          clear hx hn he
          go_wp2_with fail
          go_quiet (fail)
          go_wp2_with fail
          go_ret
          exact ⟨ret_bool hn'.out.symm, (by repeat (first | exact Drew.of _ _ | refine Drew.drewN ?_ _))⟩
      · obtain rfl : k = a.length := by omega
        have he := Lib.hid (show decide (a = b) = true from decide_eq_true (List.ext_getElem? fun j => by
          by_cases hj : j < a.length
          · exact hno.out j hj
          · rw [List.getElem?_eq_none (by omega), List.getElem?_eq_none (by have := Hl.out; omega)]))
        clear hno
        go_wp2_with fail
        go_ret
        exact ⟨ret_bool he.out.symm, (by repeat (first | exact Drew.of _ _ | refine Drew.drewN ?_ _))⟩
  · have hd := Lib.hid (show decide (a = b) = false from decide_eq_false fun h => hl (by rw [h]))
    have hl' : ((a.length : Int) != (b.length : Int)) = true := by simp; omega
    clear hl
    go_wp2_with fail
    go_ret
    exact ⟨ret_bool hd.out.symm, Drew.refl _⟩

set_option maxHeartbeats 1600000 in
set_option maxRecDepth 100000 in
theorem SameLinksR_spec {S T : Nat → Prop} {w : World} {v u : Value} {a b : List Lnk} (ha : Seq lnkE S w v a) (hb : Seq lnkE T w u b) :
    Calls Try.prog 25 #[v, u] w (QuietV (.bool (decide (a = b))) w) := by
  obtain ⟨aa, ac, rfl, -, -, hal, -, ha5⟩ := ha
  obtain ⟨ba, bc, rfl, -, -, hbl, -, hb5⟩ := hb
  go_enter Try.func25, Try.ntmps25
  by_cases hl : a.length = b.length
  · have hl' : ((a.length : Int) != (b.length : Int)) = false := by simp [hl]
    have Hl := Lib.hid hl
    clear hl
    go_wp2_with fail
    go_loopw [5] (fun i wr => ∃ k : Nat, k ≤ a.length ∧ i = .int .i64 k ∧ Hid (∀ j, j < k → a[j]? = b[j]?) ∧ Drew w wr) (fun i _ => a.length - (intOf i).toNat)
    case atStart => exact ⟨0, Nat.zero_le _, rfl, Lib.hid (by simp), Drew.refl _⟩
    case round =>
      obtain ⟨k, hk, rfl, hno, hdr⟩ := hrel
      obtain ⟨q, rfl⟩ := hdr
      by_cases hka : k < a.length
      · have hkb : k < b.length := by rw [← Hl.out]; exact hka
        obtain ⟨b1, o1, rfl, -, -, c0, c1, c2, -⟩ := ha5.lnk hka
        obtain ⟨b2, o2, rfl, -, -, d0, d1, d2, -⟩ := hb5.lnk hkb
        have hx := Lib.hid (show a[k] = b[k] → ∀ j, j < k + 1 → a[j]? = b[j]? from fun h j hj => by
          by_cases e : j = k
          · subst e; rw [List.getElem?_eq_getElem hka, List.getElem?_eq_getElem hkb, h]
          · exact hno.out j (by omega))
        have hn := Lib.hid (show a[k] ≠ b[k] → decide (a = b) = false from fun h => decide_eq_false fun e => by subst e; exact h rfl)
        clear ha5 hb5
        obtain ⟨x, hxe⟩ : ∃ x, x = a[k] := ⟨_, rfl⟩
        obtain ⟨y, hye⟩ : ∃ y, y = b[k] := ⟨_, rfl⟩
        rw [← hxe] at c0 c1 c2 hx hn
        rw [← hye] at d0 d1 d2 hx hn
        clear hxe hye
        have hkl : (k : Int) < (a.length : Int) := by omega
        have hkm : (k : Int) < (b.length : Int) := by omega
        have hk0 : (0 : Int) ≤ (k : Int) := by omega
        by_cases he : x = y
        · have hx' := Lib.hid (hx.out he)
          subst he
          clear hx hn
          go_wp2_with fail
          go_quiet (fail)
          go_wp2_with fail
          go_roundw
          case rel => exact ⟨k + 1, hka, by go_num, hx', (by repeat (first | exact Drew.of _ _ | refine Drew.drewN ?_ _))⟩
          case measure => simp [intOf]; omega
        · have hn' := Lib.hid (hn.out he)
          rcases lnk_ne he with q1 | ⟨q1, q2⟩ | ⟨q1, q2, q3⟩
          all_goals
            clear hx hn he
            go_wp2_with fail
            go_quiet (fail)
            go_wp2_with fail
            go_ret
            exact ⟨ret_bool hn'.out.symm, (by repeat (first | exact Drew.of _ _ | refine Drew.drewN ?_ _))⟩
      · obtain rfl : k = a.length := by omega
        have he := Lib.hid (show decide (a = b) = true from decide_eq_true (List.ext_getElem? fun j => by
          by_cases hj : j < a.length
          · exact hno.out j hj
          · rw [List.getElem?_eq_none (by omega), List.getElem?_eq_none (by have := Hl.out; omega)]))
        clear hno
        go_wp2_with fail
        go_ret
        exact ⟨ret_bool he.out.symm, (by repeat (first | exact Drew.of _ _ | refine Drew.drewN ?_ _))⟩
  · have hd := Lib.hid (show decide (a = b) = false from decide_eq_false fun h => hl (by rw [h]))
    have hl' : ((a.length : Int) != (b.length : Int)) = true := by simp; omega
    clear hl
    go_wp2_with fail
    go_ret
    exact ⟨ret_bool hd.out.symm, Drew.refl _⟩

/-- Where one stands in a row first; -1: nowhere. -/
def placeP (l : List Prd) (p : Prd) : Int := match l.findIdx? (fun x => decide (x = p)) with
  | some k => (k : Int)
  | none => -1
theorem placeP_at {l : List Prd} {p : Prd} {k : Nat} (hk : k < l.length) (he : l[k] = p) (hno : ∀ j x, j < k → l[j]? = some x → x ≠ p) : placeP l p = (k : Int) := by
  unfold placeP
  rw [List.findIdx?_eq_some_iff_getElem.2 ⟨hk, by simp [he], fun j hj => by simpa using hno j _ hj (List.getElem?_eq_getElem (by omega))⟩]
theorem placeP_none {l : List Prd} {p : Prd} (hno : ∀ j x, j < l.length → l[j]? = some x → x ≠ p) : placeP l p = -1 := by
  unfold placeP
  rw [List.findIdx?_eq_none_iff.2 fun x hx => by
    obtain ⟨j, hj, rfl⟩ := List.mem_iff_getElem.1 hx
    simpa using hno j _ hj (List.getElem?_eq_getElem hj)]

set_option maxHeartbeats 1600000 in
set_option maxRecDepth 100000 in
theorem PlaceR_spec {S : Nat → Prop} {w : World} {v : Value} {l : List Prd} {p : Prd} (hl : Seq prdE S w v l) :
    Calls Try.prog 37 #[v, .agg #[.string p.name, .int .i64 p.n]] w (RetV (.int .i64 (placeP l p)) w) := by
  obtain ⟨W, hW⟩ : ∃ W, W = w.alloc (.cells #[.string p.name, .int .i64 p.n] 24) := ⟨_, rfl⟩
  have hbW : Below w.heap.size w W := by rw [hW]; exact Seq.way
  have HR := (show Row 24 W w.heap.size [.string p.name, .int .i64 p.n] by rw [hW]; exact Row.new w [_, _] _ rfl)
  have r0 : W.cell? ⟨w.heap.size, 0, none⟩ = some (.string p.name) := HR.cell (j := 0) (by simp)
  have r1 : W.cell? ⟨w.heap.size, 1, none⟩ = some (.int .i64 p.n) := HR.cell (j := 1) (by simp)
  have HBW := Lib.hid hbW
  have HW := Lib.hid hW
  have hl' := hl.at hbW
  clear hW hbW HR hl
  obtain ⟨aa, ac, rfl, -, -, hal, -, h5⟩ := hl'
  have H5 := Lib.hid h5
  clear h5
  go_enter Try.func37, Try.ntmps37
  go_upto_region 1 with fail
  rw [← HW.out]
  go_wp2_with fail
  go_loopw [5] (fun i wr => ∃ k : Nat, k ≤ l.length ∧ i = .int .i64 k ∧ Hid (∀ j x, j < k → l[j]? = some x → x ≠ p) ∧ Drew W wr) (fun i _ => l.length - (intOf i).toNat)
  case atStart => exact ⟨0, Nat.zero_le _, rfl, Lib.hid (fun j x h _ => by omega), Drew.refl _⟩
  case round =>
    obtain ⟨k, hk, rfl, hno, hdr⟩ := hrel
    obtain ⟨q, rfl⟩ := hdr
    by_cases hlt : k < l.length
    · obtain ⟨b1, o1, rfl, -, -, c0, c1, -⟩ := H5.out.prd hlt
      have hy := Lib.hid (fun h => placeP_at hlt h hno.out)
      have hn := Lib.hid (show l[k] ≠ p → ∀ j x, j < k + 1 → l[j]? = some x → x ≠ p from fun h j x hj hx => by
        by_cases e : j = k
        · subst e; rw [List.getElem?_eq_getElem hlt] at hx; exact Option.some.inj hx ▸ h
        · exact hno.out j x (by omega) hx)
      obtain ⟨x, hx⟩ : ∃ x, x = l[k] := ⟨_, rfl⟩
      rw [← hx] at c0 c1 hy hn
      have hkl : (k : Int) < (l.length : Int) := by omega
      have hk0 : (0 : Int) ≤ (k : Int) := by omega
      clear hx hno
      by_cases he : x = p
      · have hy' := Lib.hid (hy.out he)
        subst he
        clear hy hn
        go_wp2_with fail
        go_quiet (fail)
        go_wp2_with fail
        go_ret
        exact ⟨ret_eq (by rw [hy'.out]; rfl), (by repeat (first | exact HBW.out | refine below_drewN ?_ _))⟩
      · have hn' := Lib.hid (hn.out he)
        rcases prd_ne he with q1 | ⟨q1, q2⟩
        all_goals
          clear hy hn he
          go_wp2_with fail
          go_quiet (fail)
          go_wp2_with fail
          go_roundw
          case rel => exact ⟨k + 1, hlt, by go_num, hn', (by repeat (first | exact Drew.of _ _ | refine Drew.drewN ?_ _))⟩
          case measure => simp [intOf]; omega
    · obtain rfl : k = l.length := by omega
      have he := Lib.hid (placeP_none hno.out)
      clear hno hlt
      go_wp2_with fail
      go_ret
      exact ⟨ret_eq (by rw [he.out]; rfl), (by repeat (first | exact HBW.out | refine below_drewN ?_ _))⟩
end
end Go.Proofs.Ytadbdmnngmlnhaa
