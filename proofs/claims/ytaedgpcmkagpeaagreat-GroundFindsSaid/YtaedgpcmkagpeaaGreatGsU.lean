/-
  Layer 16, the program: compacting in place by a comparison (slices.CompactFunc) at terms, numbers and rules.
-/
import Derived.Test.YtaedgpcmkagpeaaGreatGsT
import Derived.Laws.CopyOwn
import Derived.Deep.CutBlock
namespace Go.Proofs.YtaedgpcmkagpeaaGreat
open Go Go.RowKit

/-! ### An element written in place; cleared from a place on -/
theorem splice_get {α : Type} (L cs : List α) (o i : Nat) (h : o + cs.length ≤ L.length) : (splice L o cs)[i]? = if i < o then L[i]? else if i < o + cs.length then cs[i - o]? else L[i]? := by
  unfold splice
  have hl : (L.take o).length = o := by rw [List.length_take]; omega
  by_cases h1 : i < o
  · rw [if_pos h1, List.getElem?_append_left (by omega), List.getElem?_take_of_lt h1]
  · rw [if_neg h1, List.getElem?_append_right (by omega), hl]
    by_cases h2 : i < o + cs.length
    · rw [if_pos h2, List.getElem?_append_left (by omega)]
    · rw [if_neg h2, List.getElem?_append_right (by omega), List.getElem?_drop]
      congr 1; omega
theorem FlatE.set {α : Type} {E : Elt α} {S : Nat → Prop} {w : World} {vs : List Value} {l : List α} (h : FlatE E S w vs l) {k : Nat} (hk : k < l.length) {y : α} {cs : List Value} (hy : E.R S w y cs) : FlatE E S w (splice vs (k * E.sz) cs) (l.set k y) := by
  have hcs := E.len hy
  have hfit : k * E.sz + cs.length ≤ vs.length := by
    rw [hcs, h.1, ← Nat.succ_mul]
    exact Nat.mul_le_mul_right _ hk
  refine ⟨by rw [splice_len _ _ _ hfit, List.length_set]; exact h.1, fun m x hx => ?_⟩
  by_cases hkm : k = m
  · subst hkm
    rw [List.getElem?_set_self hk] at hx
    simp only [Option.some.injEq] at hx
    subst hx
    refine ⟨cs, hy, fun j hj => ?_⟩
    rw [splice_get _ _ _ _ hfit, if_neg (by omega), if_pos (by omega)]
    congr 1; omega
  · rw [List.getElem?_set_ne hkm] at hx
    obtain ⟨c, h4, h5⟩ := h.2 m x hx
    refine ⟨c, h4, fun j hj => ?_⟩
    rw [splice_get _ _ _ _ hfit, ← h5 j hj]
    rcases Nat.lt_or_gt_of_ne hkm with h6 | h6
    · have := Nat.mul_le_mul_right E.sz (show k + 1 ≤ m from h6)
      rw [Nat.succ_mul] at this
      rw [if_neg (by omega), if_neg (by omega)]
    · have := Nat.mul_le_mul_right E.sz (show m + 1 ≤ k from h6)
      rw [Nat.succ_mul] at this
      rw [if_pos (by omega)]
theorem splice_takeA {α : Type} (L cs : List α) (o m : Nat) (h : o + cs.length ≤ m) (hm : m ≤ L.length) : (splice L o cs).take m = splice (L.take m) o cs := by
  refine List.ext_getElem? fun i => ?_
  rw [splice_get (L.take m) cs o i (by rw [List.length_take]; omega)]
  by_cases hi : i < m
  · rw [List.getElem?_take_of_lt hi, splice_get _ _ _ _ (by omega), List.getElem?_take_of_lt hi]
  · rw [List.getElem?_eq_none (by rw [List.length_take]; omega), if_neg (by omega), if_neg (by omega), List.getElem?_eq_none (by rw [List.length_take]; omega)]
/-- An element of a row of one's own written in place. -/
theorem Own.setE {α : Type} {E : Elt α} {S : Nat → Prop} {base : Nat} {e : TypeId} {w : World} {g cap n : Nat} {l : List α} (h : Own E S base e w (.slice (some ⟨g, 0, none⟩) n cap) l) (hn : n = l.length) {k : Nat} (hk : k < l.length) {y : α} {cs : List Value} (hy : E.R (fun b => S b ∧ b ≠ g) w y cs) :
    Own E S base e (w.setCells g (k * E.sz) cs) (.slice (some ⟨g, 0, none⟩) n cap) (l.set k y) := by
  subst hn
  obtain ⟨g', cap', cur, he, h1, h2, h3, h4, h5, h6⟩ := h.flatE (by rintro rfl; simp at hk)
  simp only [Value.slice.injEq, Option.some.injEq, Addr.mk.injEq, true_and, and_true] at he
  obtain ⟨rfl, rfl⟩ := he
  have hcs := E.len hy
  have h7 := Nat.mul_le_mul_right E.sz (show k + 1 ≤ l.length from hk)
  rw [Nat.succ_mul] at h7
  have h8 := Nat.mul_le_mul_right E.sz h2
  have h9 := Row.setCells (o := k * E.sz) (vs := cs) h5 (by omega)
  refine FlatE.own h9 (by rw [List.length_set]) ?_ h1 (by rw [splice_len _ _ _ (by omega)]; exact h4) h2 h3
  rw [splice_takeA _ _ _ _ (by omega) (by omega)]
  exact (h6.set hk hy).mono (fun _ h _ => h) fun b hb hlt => (grown_setCells g cs (k * E.sz) w).block b hlt (fun e => hb.2 (by simpa using e))
theorem below_store {base g o : Nat} {w0 w : World} (h : Below base w0 w) (hg : base ≤ g) (hw0 : base ≤ w0.heap.size) (v : Value) : Below base w0 (w.setCell ⟨g, o, none⟩ v) :=
  h.trans (grown_below (grown_setCell w g o v) hg (Nat.le_trans hw0 h.size))
theorem below_stores {base g o : Nat} {w0 w : World} (h : Below base w0 w) (hg : base ≤ g) (hw0 : base ≤ w0.heap.size) (vs : List Value) : Below base w0 (w.setCells g o vs) :=
  h.trans (grown_below (grown_setCells g vs o w) hg (Nat.le_trans hw0 h.size))
/-- Cleared from a place on, the row ahead of it is as it was. -/
theorem own_clear {α : Type} {E : Elt α} {S : Nat → Prop} {base : Nat} {e : TypeId} {w : World} {g cap n i : Nat} {l : List α} (h : Own E S base e w (.slice (some ⟨g, 0, none⟩) n cap) l) (hn : n = l.length) (hi : i < l.length) {cs : List Value} (hcs : cs.length = (n - i) * E.sz) :
    Own E S base e (w.setCells g (i * E.sz) cs) (.slice (some ⟨g, 0, none⟩) i cap) (l.take i) := by
  subst hn
  obtain ⟨g', cap', cur, he, h1, h2, h3, h4, h5, h6⟩ := h.flatE (by rintro rfl; simp at hi)
  simp only [Value.slice.injEq, Option.some.injEq, Addr.mk.injEq, true_and, and_true] at he
  obtain ⟨rfl, rfl⟩ := he
  have e1 : i * E.sz + cs.length = l.length * E.sz := by rw [hcs, ← Nat.add_mul]; congr 1; omega
  have h8 := Nat.mul_le_mul_right E.sz h2
  have h9 := Row.setCells (o := i * E.sz) (vs := cs) h5 (by omega)
  refine FlatE.own h9 (by rw [List.length_take]; omega) ?_ h1 (by rw [splice_len _ _ _ (by omega)]; exact h4) (by omega) h3
  rw [splice_take _ _ _ (by omega)]
  have h10 := h6.take i (by omega)
  rw [List.take_take, Nat.min_eq_left (by omega)] at h10
  exact h10.mono (fun _ h _ => h) fun b hb hlt => (grown_setCells g cs (i * E.sz) w).block b hlt (fun e => hb.2 (by simpa using e))

/-! ### []Cell -/
def OwnT (S : Nat → Prop) (base : Nat) (w : World) (g n cap : Nat) (l : List (List Cell)) : Prop := Own (seqE cellE) S base 33 w (.slice (some ⟨g, 0, none⟩) n cap) l
theorem OwnT.cells {S : Nat → Prop} {base : Nat} {w : World} {g n cap : Nat} {l : List (List Cell)} (h : OwnT S base w g n cap l) {j : Nat} (hj : j < l.length) :
    ∃ p n, w.cell? ⟨g, j, none⟩ = some (.slice p l[j].length n) ∧ Seq cellE (fun b => S b ∧ b ≠ g) w (.slice p l[j].length n) l[j] := by
  obtain ⟨g', cap', cur, he, h1, h2, h3, h4, h5, h6⟩ := Own.flatE h (by rintro rfl; simp at hj)
  simp only [Value.slice.injEq, Option.some.injEq, Addr.mk.injEq, and_true] at he
  obtain ⟨rfl, -, rfl⟩ := he
  have h4q : cur.length = cap * 1 := h4
  obtain ⟨cs, ⟨u, rfl, hu⟩, g3⟩ := h6.2 j _ (List.getElem?_eq_getElem hj)
  have e0 := g3 0 (show 0 < 1 by decide)
  rw [List.getElem?_take_of_lt (by show j * 1 + 0 < l.length * 1; omega)] at e0
  obtain ⟨p, n', rfl⟩ := hu.shape
  refine ⟨p, n', ?_, hu⟩
  rw [h5.cell (by omega)]
  have e1 : cur[j * 1 + 0]? = some (.slice p l[j].length n') := e0
  have : cur[j]? = some (.slice p l[j].length n') := by simpa using e1
  rw [List.getElem?_eq_getElem (by omega)] at this; exact this
theorem OwnT.frozen {S : Nat → Prop} {base : Nat} {w : World} {g n cap : Nat} {l : List (List Cell)} (h : OwnT S base w g n cap l) (hl : l ≠ []) (j : Nat) : w.frozen? ⟨g, j, none⟩ = false := by
  obtain ⟨g', cap', cur, he, h1, h2, h3, h4, h5, h6⟩ := Own.flatE h hl
  simp only [Value.slice.injEq, Option.some.injEq, Addr.mk.injEq, and_true] at he
  obtain ⟨rfl, -⟩ := he
  exact h5.frozen j
theorem OwnT.set {S : Nat → Prop} {base : Nat} {w : World} {g n cap : Nat} {l : List (List Cell)} (h : OwnT S base w g n cap l) (hn : n = l.length) {k : Nat} (hk : k < l.length) {y : List Cell} {u : Value} (hy : Seq cellE (fun b => S b ∧ b ≠ g) w u y) :
    OwnT S base (w.setCell ⟨g, k, none⟩ u) g n cap (l.set k y) := by
  have h9 := Own.setE (E := seqE cellE) (cs := [u]) h hn hk ⟨u, rfl, hy⟩
  have e9 : k * (seqE cellE).sz = k * 1 := rfl
  rw [e9] at h9
  rw [Nat.mul_one] at h9
  exact h9
theorem OwnT.to {S : Nat → Prop} {base : Nat} {w w' : World} {g n cap : Nat} {l : List (List Cell)} (h : OwnT S base w g n cap l) (hw : Below w.heap.size w w') : OwnT S base w' g n cap l := Own.move h hw
theorem zeroT (w : World) : (zeroValue 33).run Tryz.prog w = .ok (Value.slice none 0 0) w := by kernel_rfl

set_option maxHeartbeats 800000 in
theorem eqT_spec {w : World} {B : Nat} {S T : Nat → Prop} {v u : Value} {a b : List Cell} (ha : Seq cellE S w v a) (hb : Seq cellE T w u b) (hB : w.cell? ⟨B, 0, none⟩ = some (.func (.func 35) #[] #[])) :
    Calls Tryz.prog 71 #[v, u, .pointer (some ⟨B, 0, none⟩)] w (RetV (.bool (decide (a = b))) w) := by
  have Ha := Lib.hid ha
  have Hb := Lib.hid hb
  obtain ⟨aa, ac, rfl, -⟩ := ha
  obtain ⟨ba, bc, rfl, -⟩ := hb
  go_enter Tryz.func71, Tryz.ntmps71
  go_wp2_with fail
  refine (CompareG_spec Ha.out Hb.out).mono ?_
  rintro e w1 ⟨rfl, hb1, -⟩
  by_cases h : a = b
  · have h1 : (cmpT a b == 0) = true := by rw [cmpT_ok.zero.2 h]; rfl
    have hd := Lib.hid (decide_eq_true h)
    clear h
    go_wp2_with fail
    go_ret
    exact ⟨ret_bool hd.out.symm, hb1⟩
  · have h1 : (cmpT a b == 0) = false := by rw [beq_eq_false_iff_ne]; exact fun e => h (cmpT_ok.zero.1 e)
    have hd := Lib.hid (decide_eq_false h)
    clear h
    go_wp2_with fail
    go_ret
    exact ⟨ret_bool hd.out.symm, hb1⟩
set_option maxHeartbeats 12800000 in
set_option maxRecDepth 100000 in
theorem compactT_spec {S : Nat → Prop} {base B : Nat} {w : World} {v : Value} {l : List (List Cell)} (hl : Own (seqE cellE) S base 33 w v l) (hbase : base ≤ w.heap.size) (hlen : l.length ≤ 1000000) (hB : w.cell? ⟨B, 0, none⟩ = some (.func (.func 35) #[] #[])) (hBb : B < base) :
    Calls Tryz.prog 70 #[v, .func (.func 71) #[] #[.pointer (some ⟨B, 0, none⟩)]] w fun e w' => ∃ r, e = .returned r ∧ Below base w w' ∧ Own (seqE cellE) S base 33 w' r (cptL l) := by
  by_cases h2 : l.length < 2
  · have HL := Lib.hid hl
    obtain ⟨ao, cap, rfl, -, -⟩ := hl.shape
    have He := Lib.hid (cp_one h2)
    clear hl
    go_enter Tryz.func70, Tryz.ntmps70
    go_wp2_with fail
    go_ret
    exact ⟨_, rfl, Below.refl _ _, by rw [He.out]; exact HL.out⟩
  · obtain ⟨g, cap, cur0, rfl, hg, hc1, hc2, -, hrow0, -⟩ := Own.flatE hl (by rintro rfl; simp at h2)
    have hgl := hrow0.lt
    have HL := Lib.hid (show OwnT S base w g l.length cap l from hl)
    have hne := Lib.hid (show l ≠ [] by rintro rfl; simp at h2)
    obtain ⟨n, hn⟩ : ∃ n, n = l.length := ⟨_, rfl⟩
    rw [← hn] at h2 hlen hc1
    rw [← hn]
    have HN := Lib.hid hn
    rw [← hn] at HL
    have Hbase := Lib.hid (show base ≤ w.heap.size ∧ base ≤ g from ⟨hbase, hg⟩)
    have HBc := Lib.hid (fun (W : World) (h : Below base w W) => (h.cell (p := ⟨B, 0, none⟩) hBb).trans hB)
    have h2' : ((n : Int) < 2) = False := by simp; omega
    clear hl hn hbase hg hgl hrow0 hB
    go_enter Tryz.func70, Tryz.ntmps70
    go_wp2_with fail
    clear h2'
    go_loopw [5] (fun i wr => ∃ k : Nat, 1 ≤ k ∧ k ≤ n ∧ i = .int .i64 k ∧ Hid (cptL (l.take k) = l.take k) ∧ Hid (Below base w wr) ∧ Hid (OwnT S base wr g n cap l)) (fun i _ => n - (intOf i).toNat)
    case atStart => exact ⟨1, Nat.le_refl _, by omega, rfl, Lib.hid (cp_one (by rw [List.length_take]; omega)), Lib.hid (Below.refl _ _), HL⟩
    case round =>
      obtain ⟨k, hk1, hk, rfl, hcp, hb, ho⟩ := hrel
      clear HL
      by_cases hlt : k < n
      · obtain ⟨j, rfl⟩ : ∃ j, k = j + 1 := ⟨k - 1, by omega⟩
        have CB := HBc.out _ hb.out
        have hwsz : base ≤ wr.heap.size := Nat.le_trans Hbase.out.1 hb.out.size
        have lB : B < wr.heap.size := Nat.lt_of_lt_of_le hBb hwsz
        obtain ⟨ap, an, a0, aS⟩ := ho.out.cells (show j < l.length by have := HN.out; omega)
        obtain ⟨bp, bn, b0, bS⟩ := ho.out.cells (show j + 1 < l.length by have := HN.out; omega)
        obtain ⟨x, hx⟩ : ∃ x, x = l[j]'(by have := HN.out; omega) := ⟨_, rfl⟩
        obtain ⟨y, hy⟩ : ∃ y, y = l[j + 1]'(by have := HN.out; omega) := ⟨_, rfl⟩
        rw [← hx] at a0 aS
        rw [← hy] at b0 bS
        have aH := Lib.hid aS
        have bH := Lib.hid bS
        have HX := Lib.hid hx
        have HY := Lib.hid hy
        clear hx hy aS bS
        have hkl : ((j + 1 : Nat) : Int) < (n : Int) := by omega
        have hk0 : (0 : Int) ≤ ((j + 1 : Nat) : Int) := by omega
        have hj0 : ((j + 1 : Nat) : Int) - 1 = (j : Int) := by omega
        have hkp1 : (j : Int) + 1 < (n : Int) := by omega
        have hkp0 : (0 : Int) ≤ (j : Int) + 1 := by omega
        have hkt : ((j : Int) + 1).toNat = j + 1 := by omega
        have hjn : (j : Int) < (n : Int) := by omega
        have hjn0 : (0 : Int) ≤ (j : Int) := by omega
        have hkw : IntKind.i64.wrap (j : Int) = (j : Int) := by rw [IntKind.wrap_i64]; omega
        have hcj : ¬ cap = j + 1 := by omega
        go_upto_region 6 with fail
        go_still_tail 10, (by kernel_rfl)
        go_wp2_with fail
        refine (eqT_spec (w := wr.drew) (bH.out.at Seq.way) (aH.out.at Seq.way) CB).mono ?_
        rintro e w1 ⟨rfl, hb1⟩
        have hb1' := Lib.hid (below_step hb1 (Seq.way : Below wr.heap.size wr _))
        have hbe := Lib.hid (hb.out.trans (hb1'.out.mono hwsz))
        have ho1 := Lib.hid (ho.out.to hb1'.out)
        clear hb1 a0 b0 CB lB
        by_cases hxy : y = x
        · rw [decide_eq_true hxy]
          have HE := Lib.hid hxy
          clear hxy
          have hcp1 := Lib.hid (show cpN l (j + 2) = j + 1 ∧ cpC l (j + 2) = l from by
            have hjl : j + 1 < l.length := by have := HN.out; omega
            obtain ⟨q1, q2⟩ := cp_same hjl (show l[j] = l[j + 1] by rw [← HX.out, ← HY.out, HE.out])
            exact ⟨by rw [q2, cpN_low hcp.out (by omega)], by rw [q1, cpC_low hcp.out]⟩)
          clear hb ho
          go_wp2_with fail
          go_loopw [5, 7] (fun i q wr => ∃ i' k2 : Nat, i = .int .i64 i' ∧ q = .int .i64 k2 ∧ 1 ≤ k2 ∧ j + 1 + k2 ≤ n ∧ i' ≤ j + k2 ∧ Hid (i' = cpN l (j + 1 + k2)) ∧ Hid (Below base w wr) ∧ Hid (OwnT S base wr g n cap (cpC l (j + 1 + k2)))) (fun _ q _ => n - (j + 1 + (intOf q).toNat))
          case atStart => exact ⟨j + 1, 1, by go_num, by go_num, Nat.le_refl _, by omega, by omega, Lib.hid hcp1.out.1.symm, hbe, Lib.hid (by rw [hcp1.out.2]; exact ho1.out)⟩
          case round =>
            obtain ⟨i, k2, rfl, rfl, h21, h2n, hi2, hiN, hbw, how⟩ := hrel
            clear hbe ho1 hcp1 hcp hkl hk0 hj0 hjn hkp1 hkp0 hkt hjn0 hkw hb1' hwsz
            have HCL := Lib.hid (cpC_len l (j + 1 + k2))
            have hi0 : (0 : Int) ≤ (i : Int) := by omega
            have hk2 : (0 : Int) ≤ (k2 : Int) := by omega
            by_cases hlt2 : j + 1 + k2 < n
            · obtain ⟨m, rfl⟩ : ∃ m, k2 = m + 1 := ⟨k2 - 1, by omega⟩
              have hjl : j + 1 + (m + 1) < l.length := by have := HN.out; omega
              have CB := HBc.out _ hbw.out
              have hwsz : base ≤ wr.heap.size := Nat.le_trans Hbase.out.1 hbw.out.size
              have lB : B < wr.heap.size := Nat.lt_of_lt_of_le hBb hwsz
              obtain ⟨pp, pn, p0, pS⟩ := how.out.cells (show j + 1 + m < _ by rw [HCL.out]; omega)
              obtain ⟨rp, rn, r0, rS⟩ := how.out.cells (show j + 1 + (m + 1) < _ by rw [HCL.out]; omega)
              rw [cpC_get (show j + 1 + m < l.length by omega) (by have := hiN.out; omega)] at p0 pS
              rw [cpC_get hjl (by have := hiN.out; omega)] at r0 rS
              obtain ⟨x2, hx2⟩ : ∃ x, x = l[j + 1 + m]'(by omega) := ⟨_, rfl⟩
              obtain ⟨y2, hy2⟩ : ∃ y, y = l[j + 1 + (m + 1)] := ⟨_, rfl⟩
              rw [← hx2] at p0 pS
              rw [← hy2] at r0 rS
              have pH := Lib.hid pS
              have rH := Lib.hid rS
              have HX2 := Lib.hid hx2
              have HY2 := Lib.hid hy2
              have Hjl := Lib.hid hjl
              clear hx2 hy2 pS rS
              have hm1 : ((m + 1 : Nat) : Int) - 1 = (m : Int) := by omega
              have hmn : (m : Int) < ((n - (j + 1) : Nat) : Int) := by omega
              have hmn1 : ((m + 1 : Nat) : Int) < ((n - (j + 1) : Nat) : Int) := by omega
              have hmp1 : (m : Int) + 1 < ((n - (j + 1) : Nat) : Int) := by omega
              have hmp0 : (0 : Int) ≤ (m : Int) + 1 := by omega
              have hmt : ((m : Int) + 1).toNat = m + 1 := by omega
              have hm0 : (0 : Int) ≤ (m : Int) := by omega
              have hmw : IntKind.i64.wrap (m : Int) = (m : Int) := by rw [IntKind.wrap_i64]; omega
              go_upto_region 11 with fail
              go_still_tail 10, (by kernel_rfl)
              go_wp2_with fail
              refine (eqT_spec (w := wr.drew) (rH.out.at Seq.way) (pH.out.at Seq.way) CB).mono ?_
              rintro e w1 ⟨rfl, hb1⟩
              have hb1' := Lib.hid (below_step hb1 (Seq.way : Below wr.heap.size wr _))
              have hbe := Lib.hid (hbw.out.trans (hb1'.out.mono hwsz))
              have ho1 := Lib.hid (how.out.to hb1'.out)
              clear hb1 p0 r0 CB lB
              by_cases hxy2 : y2 = x2
              · rw [decide_eq_true hxy2]
                have HE2 := Lib.hid hxy2
                clear hxy2
                go_wp2_with fail
                go_roundw
                case rel =>
                  obtain ⟨q1, q2⟩ := cp_same (l := l) (k := j + 1 + m) Hjl.out (by rw [← HX2.out, ← HE2.out, HY2.out]; rfl)
                  exact ⟨i, m + 2, rfl, by go_num, by omega, by omega, by omega, Lib.hid (by rw [hiN.out]; exact q2.symm), hbe, Lib.hid (by rw [show j + 1 + (m + 2) = j + 1 + m + 2 by omega, q1]; exact ho1.out)⟩
                case measure => simp [intOf]; omega
              · rw [decide_eq_false hxy2]
                have HE2 := Lib.hid hxy2
                have hiw : i < (cpC l (j + 1 + (m + 1))).length := by rw [HCL.out, ← HN.out]; omega
                obtain ⟨op, on, o0, oS⟩ := ho1.out.cells (show i < _ from hiw)
                obtain ⟨rp, rn, r0, rS⟩ := ho1.out.cells (show j + 1 + (m + 1) < _ by rw [HCL.out]; exact Hjl.out)
                rw [cpC_get Hjl.out (by have := hiN.out; omega), ← HY2.out] at r0 rS
                have rH2 := Lib.hid rS
                have hwe : cpC l (j + 1 + (m + 1)) ≠ [] := by intro h; rw [h] at hiw; simp at hiw
                have f0 := ho1.out.frozen hwe (i)
                generalize (cpC l (j + 1 + (m + 1)))[i] = z at o0 oS
                have hin : (i : Int) < (n : Int) := by omega
                clear hwe hiw hxy2 oS rS
                go_wp2_with fail
                go_roundw
                case rel =>
                  obtain ⟨q1, q2⟩ := cp_new (l := l) (k := j + 1 + m) Hjl.out (fun h => HE2.out (by rw [HX2.out, HY2.out]; exact h.symm))
                  have hset := OwnT.set ho1.out (by rw [HCL.out]; exact HN.out) (k := i) (by rw [HCL.out, ← HN.out]; omega) rH2.out
                  refine ⟨i + 1, m + 2, by go_num, by go_num, by omega, by omega, by omega, Lib.hid (by rw [hiN.out]; exact q2.symm), Lib.hid (below_store hbe.out Hbase.out.2 Hbase.out.1 _), Lib.hid ?_⟩
                  rw [show j + 1 + (m + 2) = j + 1 + m + 2 by omega, q1, show l[j + 1 + m + 1]'Hjl.out = y2 from HY2.out.symm]
                  rw [hiN.out] at hset ⊢
                  exact hset
                case measure => simp [intOf]; omega
            · have hend := Lib.hid (show j + 1 + k2 = n by omega)
              have hke : ((k2 : Int) < ((n - (j + 1) : Nat) : Int)) = False := by simp; omega
              have hin : i < n := by omega
              clear hlt2
              have HZ : ∀ t, t < n * 1 → (wr.cell? ⟨g, t, none⟩).isSome = true := fun t ht => by
                have hlc := HCL.out
                have hn2 := HN.out
                obtain ⟨p, q, u0, -⟩ := how.out.cells (j := t) (by omega)
                rw [u0]; rfl
              have hwe : cpC l (j + 1 + k2) ≠ [] := by intro h; have := HCL.out; rw [h, ← HN.out] at this; simp at this; omega
              have HF := how.out.frozen hwe
              have hzl : (Builtin.zeroCells (Value.slice none 0 0).cells (n - i)).toList.length = (n - i) * 1 := by simp [Builtin.zeroCells, Value.cells]
              obtain ⟨news, hnews⟩ : ∃ news, news = (Builtin.zeroCells (Value.slice none 0 0).cells (n - i)).toList := ⟨_, rfl⟩
              have hclr : ∀ ty, (Builtin.clear_ #[23] ty #[.slice (some ⟨g, i, none⟩) (n - i) (cap - i)]).run Tryz.prog wr = .ok (.tuple #[]) (wr.setCells g (i) news) :=
                fun ty => by
                  rw [hnews]
                  exact run_clear_sliceK wr _ _ ty _ Tryz.underlying23 zeroT (by simp [Value.cells, Value.oneCell']) g (i) _ _ (by omega) (fun t ht => by
                    have ht' : t < (n - i) * 1 := ht
                    exact HZ _ (by omega)) (fun t _ => HF _)
              rw [← hnews] at hzl
              have Hzl := Lib.hid hzl
              have hmc : ¬ cap = i := by omega
              have hic : (i : Int) ≤ (n : Int) := by omega
              clear hnews hzl HZ HF hwe
              go_wp2_with fail
              go_ret
              have hown := own_clear (E := seqE cellE) how.out (by rw [HCL.out]; exact HN.out) (i := i) (by rw [HCL.out, ← HN.out]; exact hin) (cs := news) Hzl.out
              have e9 : i * (seqE cellE).sz = i := Nat.mul_one i
              rw [e9] at hown
              refine ⟨_, rfl, below_stores hbw.out Hbase.out.2 Hbase.out.1 _, ?_⟩
              rw [hend.out, HN.out, hiN.out, hend.out, HN.out] at hown
              rw [hiN.out, hend.out, HN.out, ← cp_end l]
              exact hown
        · rw [decide_eq_false hxy]
          have HE := Lib.hid hxy
          clear hxy
          go_wp2_with fail
          go_roundw
          case rel => exact ⟨j + 2, by omega, by omega, by go_num, Lib.hid (cp_next (by have := HN.out; omega) hcp.out fun h => HE.out (by rw [HX.out, HY.out]; exact h.symm)), hbe, ho1⟩
          case measure => simp [intOf]; omega
      · have hkn := Lib.hid (show k = n by omega)
        have hkx : ((k : Int) < (n : Int)) = False := by simp; omega
        clear hlt
        go_wp2_with fail
        go_ret
        have e := hcp.out
        rw [hkn.out, List.take_of_length_le (by have := HN.out; omega)] at e
        exact ⟨_, rfl, hb.out, by rw [e]; exact ho.out⟩

/-! ### int -/
def OwnI (S : Nat → Prop) (base : Nat) (w : World) (g n cap : Nat) (l : List (Int)) : Prop := Own (intE) S base 3 w (.slice (some ⟨g, 0, none⟩) n cap) l
theorem OwnI.cells {S : Nat → Prop} {base : Nat} {w : World} {g n cap : Nat} {l : List (Int)} (h : OwnI S base w g n cap l) {j : Nat} (hj : j < l.length) :
    w.cell? ⟨g, j, none⟩ = some (.int .i64 l[j]) ∧ IntOK l[j] := by
  obtain ⟨g', cap', cur, he, h1, h2, h3, h4, h5, h6⟩ := Own.flatE h (by rintro rfl; simp at hj)
  simp only [Value.slice.injEq, Option.some.injEq, Addr.mk.injEq, and_true] at he
  obtain ⟨rfl, -, rfl⟩ := he
  have h4q : cur.length = cap * 1 := h4
  obtain ⟨cs, ⟨rfl, hu⟩, g3⟩ := h6.2 j _ (List.getElem?_eq_getElem hj)
  have e0 := g3 0 (show 0 < 1 by decide)
  rw [List.getElem?_take_of_lt (by show j * 1 + 0 < l.length * 1; omega)] at e0
  refine ⟨?_, hu⟩
  rw [h5.cell (by omega)]
  have e1 : cur[j * 1 + 0]? = some (.int .i64 l[j]) := e0
  have : cur[j]? = some (.int .i64 l[j]) := by simpa using e1
  rw [List.getElem?_eq_getElem (by omega)] at this; exact this
theorem OwnI.frozen {S : Nat → Prop} {base : Nat} {w : World} {g n cap : Nat} {l : List (Int)} (h : OwnI S base w g n cap l) (hl : l ≠ []) (j : Nat) : w.frozen? ⟨g, j, none⟩ = false := by
  obtain ⟨g', cap', cur, he, h1, h2, h3, h4, h5, h6⟩ := Own.flatE h hl
  simp only [Value.slice.injEq, Option.some.injEq, Addr.mk.injEq, and_true] at he
  obtain ⟨rfl, -⟩ := he
  exact h5.frozen j
theorem OwnI.set {S : Nat → Prop} {base : Nat} {w : World} {g n cap : Nat} {l : List (Int)} (h : OwnI S base w g n cap l) (hn : n = l.length) {k : Nat} (hk : k < l.length) {y : Int} (hy : IntOK y) :
    OwnI S base (w.setCell ⟨g, k, none⟩ (.int .i64 y)) g n cap (l.set k y) := by
  have h9 := Own.setE (E := intE) (cs := [.int .i64 y]) h hn hk ⟨rfl, hy⟩
  have e9 : k * (intE).sz = k * 1 := rfl
  rw [e9] at h9
  rw [Nat.mul_one] at h9
  exact h9
theorem OwnI.to {S : Nat → Prop} {base : Nat} {w w' : World} {g n cap : Nat} {l : List (Int)} (h : OwnI S base w g n cap l) (hw : Below w.heap.size w w') : OwnI S base w' g n cap l := Own.move h hw
theorem zeroI (w : World) : (zeroValue 3).run Tryz.prog w = .ok (Value.int .i64 0) w := by kernel_rfl

set_option maxHeartbeats 800000 in
theorem eqI_spec {w : World} {B : Nat} {a b : Int} (hB : w.cell? ⟨B, 0, none⟩ = some (.func (.func 38) #[] #[])) :
    Calls Tryz.prog 79 #[.int .i64 a, .int .i64 b, .pointer (some ⟨B, 0, none⟩)] w (RetV (.bool (decide (a = b))) w) := by

  go_enter Tryz.func79, Tryz.ntmps79
  go_wp2_with fail
  refine (cmp_spec (a := a) (b := b)).mono ?_
  rintro e w1 ⟨rfl, rfl⟩
  by_cases h : a = b
  · have h1 : (cmpZ a b == 0) = true := by rw [cmpZ_cmp.zero.2 h]; rfl
    have hd := Lib.hid (decide_eq_true h)
    clear h
    go_wp2_with fail
    go_ret
    exact ⟨ret_bool hd.out.symm, Below.refl _ _⟩
  · have h1 : (cmpZ a b == 0) = false := by rw [beq_eq_false_iff_ne]; exact fun e => h (cmpZ_cmp.zero.1 e)
    have hd := Lib.hid (decide_eq_false h)
    clear h
    go_wp2_with fail
    go_ret
    exact ⟨ret_bool hd.out.symm, Below.refl _ _⟩
set_option maxHeartbeats 12800000 in
set_option maxRecDepth 100000 in
theorem compactI_spec {S : Nat → Prop} {base B : Nat} {w : World} {v : Value} {l : List (Int)} (hl : Own (intE) S base 3 w v l) (hbase : base ≤ w.heap.size) (hlen : l.length ≤ 1000000) (hB : w.cell? ⟨B, 0, none⟩ = some (.func (.func 38) #[] #[])) (hBb : B < base) :
    Calls Tryz.prog 78 #[v, .func (.func 79) #[] #[.pointer (some ⟨B, 0, none⟩)]] w fun e w' => ∃ r, e = .returned r ∧ Below base w w' ∧ Own (intE) S base 3 w' r (cptL l) := by
  by_cases h2 : l.length < 2
  · have HL := Lib.hid hl
    obtain ⟨ao, cap, rfl, -, -⟩ := hl.shape
    have He := Lib.hid (cp_one h2)
    clear hl
    go_enter Tryz.func78, Tryz.ntmps78
    go_wp2_with fail
    go_ret
    exact ⟨_, rfl, Below.refl _ _, by rw [He.out]; exact HL.out⟩
  · obtain ⟨g, cap, cur0, rfl, hg, hc1, hc2, -, hrow0, -⟩ := Own.flatE hl (by rintro rfl; simp at h2)
    have hgl := hrow0.lt
    have HL := Lib.hid (show OwnI S base w g l.length cap l from hl)
    have hne := Lib.hid (show l ≠ [] by rintro rfl; simp at h2)
    obtain ⟨n, hn⟩ : ∃ n, n = l.length := ⟨_, rfl⟩
    rw [← hn] at h2 hlen hc1
    rw [← hn]
    have HN := Lib.hid hn
    rw [← hn] at HL
    have Hbase := Lib.hid (show base ≤ w.heap.size ∧ base ≤ g from ⟨hbase, hg⟩)
    have HBc := Lib.hid (fun (W : World) (h : Below base w W) => (h.cell (p := ⟨B, 0, none⟩) hBb).trans hB)
    have h2' : ((n : Int) < 2) = False := by simp; omega
    clear hl hn hbase hg hgl hrow0 hB
    go_enter Tryz.func78, Tryz.ntmps78
    go_wp2_with fail
    clear h2'
    go_loopw [5] (fun i wr => ∃ k : Nat, 1 ≤ k ∧ k ≤ n ∧ i = .int .i64 k ∧ Hid (cptL (l.take k) = l.take k) ∧ Hid (Below base w wr) ∧ Hid (OwnI S base wr g n cap l)) (fun i _ => n - (intOf i).toNat)
    case atStart => exact ⟨1, Nat.le_refl _, by omega, rfl, Lib.hid (cp_one (by rw [List.length_take]; omega)), Lib.hid (Below.refl _ _), HL⟩
    case round =>
      obtain ⟨k, hk1, hk, rfl, hcp, hb, ho⟩ := hrel
      clear HL
      by_cases hlt : k < n
      · obtain ⟨j, rfl⟩ : ∃ j, k = j + 1 := ⟨k - 1, by omega⟩
        have CB := HBc.out _ hb.out
        have hwsz : base ≤ wr.heap.size := Nat.le_trans Hbase.out.1 hb.out.size
        have lB : B < wr.heap.size := Nat.lt_of_lt_of_le hBb hwsz
        obtain ⟨a0, aS⟩ := ho.out.cells (show j < l.length by have := HN.out; omega)
        obtain ⟨b0, bS⟩ := ho.out.cells (show j + 1 < l.length by have := HN.out; omega)
        obtain ⟨x, hx⟩ : ∃ x, x = l[j]'(by have := HN.out; omega) := ⟨_, rfl⟩
        obtain ⟨y, hy⟩ : ∃ y, y = l[j + 1]'(by have := HN.out; omega) := ⟨_, rfl⟩
        rw [← hx] at a0 aS
        rw [← hy] at b0 bS
        have aH := Lib.hid aS
        have bH := Lib.hid bS
        have HX := Lib.hid hx
        have HY := Lib.hid hy
        clear hx hy aS bS
        have hkl : ((j + 1 : Nat) : Int) < (n : Int) := by omega
        have hk0 : (0 : Int) ≤ ((j + 1 : Nat) : Int) := by omega
        have hj0 : ((j + 1 : Nat) : Int) - 1 = (j : Int) := by omega
        have hkp1 : (j : Int) + 1 < (n : Int) := by omega
        have hkp0 : (0 : Int) ≤ (j : Int) + 1 := by omega
        have hkt : ((j : Int) + 1).toNat = j + 1 := by omega
        have hjn : (j : Int) < (n : Int) := by omega
        have hjn0 : (0 : Int) ≤ (j : Int) := by omega
        have hkw : IntKind.i64.wrap (j : Int) = (j : Int) := by rw [IntKind.wrap_i64]; omega
        have hcj : ¬ cap = j + 1 := by omega
        go_upto_region 6 with fail
        go_still_tail 10, (by kernel_rfl)
        go_wp2_with fail
        refine (eqI_spec (w := wr.drew) CB).mono ?_
        rintro e w1 ⟨rfl, hb1⟩
        have hb1' := Lib.hid (below_step hb1 (Seq.way : Below wr.heap.size wr _))
        have hbe := Lib.hid (hb.out.trans (hb1'.out.mono hwsz))
        have ho1 := Lib.hid (ho.out.to hb1'.out)
        clear hb1 a0 b0 CB lB
        by_cases hxy : y = x
        · rw [decide_eq_true hxy]
          have HE := Lib.hid hxy
          clear hxy
          have hcp1 := Lib.hid (show cpN l (j + 2) = j + 1 ∧ cpC l (j + 2) = l from by
            have hjl : j + 1 < l.length := by have := HN.out; omega
            obtain ⟨q1, q2⟩ := cp_same hjl (show l[j] = l[j + 1] by rw [← HX.out, ← HY.out, HE.out])
            exact ⟨by rw [q2, cpN_low hcp.out (by omega)], by rw [q1, cpC_low hcp.out]⟩)
          clear hb ho
          go_wp2_with fail
          go_loopw [5, 7] (fun i q wr => ∃ i' k2 : Nat, i = .int .i64 i' ∧ q = .int .i64 k2 ∧ 1 ≤ k2 ∧ j + 1 + k2 ≤ n ∧ i' ≤ j + k2 ∧ Hid (i' = cpN l (j + 1 + k2)) ∧ Hid (Below base w wr) ∧ Hid (OwnI S base wr g n cap (cpC l (j + 1 + k2)))) (fun _ q _ => n - (j + 1 + (intOf q).toNat))
          case atStart => exact ⟨j + 1, 1, by go_num, by go_num, Nat.le_refl _, by omega, by omega, Lib.hid hcp1.out.1.symm, hbe, Lib.hid (by rw [hcp1.out.2]; exact ho1.out)⟩
          case round =>
            obtain ⟨i, k2, rfl, rfl, h21, h2n, hi2, hiN, hbw, how⟩ := hrel
            clear hbe ho1 hcp1 hcp hkl hk0 hj0 hjn hkp1 hkp0 hkt hjn0 hkw hb1' hwsz
            have HCL := Lib.hid (cpC_len l (j + 1 + k2))
            have hi0 : (0 : Int) ≤ (i : Int) := by omega
            have hk2 : (0 : Int) ≤ (k2 : Int) := by omega
            by_cases hlt2 : j + 1 + k2 < n
            · obtain ⟨m, rfl⟩ : ∃ m, k2 = m + 1 := ⟨k2 - 1, by omega⟩
              have hjl : j + 1 + (m + 1) < l.length := by have := HN.out; omega
              have CB := HBc.out _ hbw.out
              have hwsz : base ≤ wr.heap.size := Nat.le_trans Hbase.out.1 hbw.out.size
              have lB : B < wr.heap.size := Nat.lt_of_lt_of_le hBb hwsz
              obtain ⟨p0, pS⟩ := how.out.cells (show j + 1 + m < _ by rw [HCL.out]; omega)
              obtain ⟨r0, rS⟩ := how.out.cells (show j + 1 + (m + 1) < _ by rw [HCL.out]; omega)
              rw [cpC_get (show j + 1 + m < l.length by omega) (by have := hiN.out; omega)] at p0 pS
              rw [cpC_get hjl (by have := hiN.out; omega)] at r0 rS
              obtain ⟨x2, hx2⟩ : ∃ x, x = l[j + 1 + m]'(by omega) := ⟨_, rfl⟩
              obtain ⟨y2, hy2⟩ : ∃ y, y = l[j + 1 + (m + 1)] := ⟨_, rfl⟩
              rw [← hx2] at p0 pS
              rw [← hy2] at r0 rS
              have pH := Lib.hid pS
              have rH := Lib.hid rS
              have HX2 := Lib.hid hx2
              have HY2 := Lib.hid hy2
              have Hjl := Lib.hid hjl
              clear hx2 hy2 pS rS
              have hm1 : ((m + 1 : Nat) : Int) - 1 = (m : Int) := by omega
              have hmn : (m : Int) < ((n - (j + 1) : Nat) : Int) := by omega
              have hmn1 : ((m + 1 : Nat) : Int) < ((n - (j + 1) : Nat) : Int) := by omega
              have hmp1 : (m : Int) + 1 < ((n - (j + 1) : Nat) : Int) := by omega
              have hmp0 : (0 : Int) ≤ (m : Int) + 1 := by omega
              have hmt : ((m : Int) + 1).toNat = m + 1 := by omega
              have hm0 : (0 : Int) ≤ (m : Int) := by omega
              have hmw : IntKind.i64.wrap (m : Int) = (m : Int) := by rw [IntKind.wrap_i64]; omega
              go_upto_region 11 with fail
              go_still_tail 10, (by kernel_rfl)
              go_wp2_with fail
              refine (eqI_spec (w := wr.drew) CB).mono ?_
              rintro e w1 ⟨rfl, hb1⟩
              have hb1' := Lib.hid (below_step hb1 (Seq.way : Below wr.heap.size wr _))
              have hbe := Lib.hid (hbw.out.trans (hb1'.out.mono hwsz))
              have ho1 := Lib.hid (how.out.to hb1'.out)
              clear hb1 p0 r0 CB lB
              by_cases hxy2 : y2 = x2
              · rw [decide_eq_true hxy2]
                have HE2 := Lib.hid hxy2
                clear hxy2
                go_wp2_with fail
                go_roundw
                case rel =>
                  obtain ⟨q1, q2⟩ := cp_same (l := l) (k := j + 1 + m) Hjl.out (by rw [← HX2.out, ← HE2.out, HY2.out]; rfl)
                  exact ⟨i, m + 2, rfl, by go_num, by omega, by omega, by omega, Lib.hid (by rw [hiN.out]; exact q2.symm), hbe, Lib.hid (by rw [show j + 1 + (m + 2) = j + 1 + m + 2 by omega, q1]; exact ho1.out)⟩
                case measure => simp [intOf]; omega
              · rw [decide_eq_false hxy2]
                have HE2 := Lib.hid hxy2
                have hiw : i < (cpC l (j + 1 + (m + 1))).length := by rw [HCL.out, ← HN.out]; omega
                obtain ⟨o0, oS⟩ := ho1.out.cells (show i < _ from hiw)
                obtain ⟨r0, rS⟩ := ho1.out.cells (show j + 1 + (m + 1) < _ by rw [HCL.out]; exact Hjl.out)
                rw [cpC_get Hjl.out (by have := hiN.out; omega), ← HY2.out] at r0 rS
                have rH2 := Lib.hid rS
                have hwe : cpC l (j + 1 + (m + 1)) ≠ [] := by intro h; rw [h] at hiw; simp at hiw
                have f0 := ho1.out.frozen hwe (i)
                generalize (cpC l (j + 1 + (m + 1)))[i] = z at o0 oS
                have hin : (i : Int) < (n : Int) := by omega
                clear hwe hiw hxy2 oS rS
                go_wp2_with fail
                go_roundw
                case rel =>
                  obtain ⟨q1, q2⟩ := cp_new (l := l) (k := j + 1 + m) Hjl.out (fun h => HE2.out (by rw [HX2.out, HY2.out]; exact h.symm))
                  have hset := OwnI.set ho1.out (by rw [HCL.out]; exact HN.out) (k := i) (by rw [HCL.out, ← HN.out]; omega) rH2.out
                  refine ⟨i + 1, m + 2, by go_num, by go_num, by omega, by omega, by omega, Lib.hid (by rw [hiN.out]; exact q2.symm), Lib.hid (below_store hbe.out Hbase.out.2 Hbase.out.1 _), Lib.hid ?_⟩
                  rw [show j + 1 + (m + 2) = j + 1 + m + 2 by omega, q1, show l[j + 1 + m + 1]'Hjl.out = y2 from HY2.out.symm]
                  rw [hiN.out] at hset ⊢
                  exact hset
                case measure => simp [intOf]; omega
            · have hend := Lib.hid (show j + 1 + k2 = n by omega)
              have hke : ((k2 : Int) < ((n - (j + 1) : Nat) : Int)) = False := by simp; omega
              have hin : i < n := by omega
              clear hlt2
              have HZ : ∀ t, t < n * 1 → (wr.cell? ⟨g, t, none⟩).isSome = true := fun t ht => by
                have hlc := HCL.out
                have hn2 := HN.out
                obtain ⟨u0, -⟩ := how.out.cells (j := t) (by omega)
                rw [u0]; rfl
              have hwe : cpC l (j + 1 + k2) ≠ [] := by intro h; have := HCL.out; rw [h, ← HN.out] at this; simp at this; omega
              have HF := how.out.frozen hwe
              have hzl : (Builtin.zeroCells (Value.int .i64 0).cells (n - i)).toList.length = (n - i) * 1 := by simp [Builtin.zeroCells, Value.cells]
              obtain ⟨news, hnews⟩ : ∃ news, news = (Builtin.zeroCells (Value.int .i64 0).cells (n - i)).toList := ⟨_, rfl⟩
              have hclr : ∀ ty, (Builtin.clear_ #[36] ty #[.slice (some ⟨g, i, none⟩) (n - i) (cap - i)]).run Tryz.prog wr = .ok (.tuple #[]) (wr.setCells g (i) news) :=
                fun ty => by
                  rw [hnews]
                  exact run_clear_sliceK wr _ _ ty _ Tryz.underlying36 zeroI (by simp [Value.cells, Value.oneCell']) g (i) _ _ (by omega) (fun t ht => by
                    have ht' : t < (n - i) * 1 := ht
                    exact HZ _ (by omega)) (fun t _ => HF _)
              rw [← hnews] at hzl
              have Hzl := Lib.hid hzl
              have hmc : ¬ cap = i := by omega
              have hic : (i : Int) ≤ (n : Int) := by omega
              clear hnews hzl HZ HF hwe
              go_wp2_with fail
              go_ret
              have hown := own_clear (E := intE) how.out (by rw [HCL.out]; exact HN.out) (i := i) (by rw [HCL.out, ← HN.out]; exact hin) (cs := news) Hzl.out
              have e9 : i * (intE).sz = i := Nat.mul_one i
              rw [e9] at hown
              refine ⟨_, rfl, below_stores hbw.out Hbase.out.2 Hbase.out.1 _, ?_⟩
              rw [hend.out, HN.out, hiN.out, hend.out, HN.out] at hown
              rw [hiN.out, hend.out, HN.out, ← cp_end l]
              exact hown
        · rw [decide_eq_false hxy]
          have HE := Lib.hid hxy
          clear hxy
          go_wp2_with fail
          go_roundw
          case rel => exact ⟨j + 2, by omega, by omega, by go_num, Lib.hid (cp_next (by have := HN.out; omega) hcp.out fun h => HE.out (by rw [HX.out, HY.out]; exact h.symm)), hbe, ho1⟩
          case measure => simp [intOf]; omega
      · have hkn := Lib.hid (show k = n by omega)
        have hkx : ((k : Int) < (n : Int)) = False := by simp; omega
        clear hlt
        go_wp2_with fail
        go_ret
        have e := hcp.out
        rw [hkn.out, List.take_of_length_le (by have := HN.out; omega)] at e
        exact ⟨_, rfl, hb.out, by rw [e]; exact ho.out⟩

/-! ### Rule -/
def OwnU (S : Nat → Prop) (base : Nat) (w : World) (g n cap : Nat) (l : List (Rule)) : Prop := Own (ruleE) S base 46 w (.slice (some ⟨g, 0, none⟩) n cap) l
theorem OwnU.cells {S : Nat → Prop} {base : Nat} {w : World} {g n cap : Nat} {l : List (Rule)} (h : OwnU S base w g n cap l) {j : Nat} (hj : j < l.length) :
    ∃ p1 p2 n1 n2, w.cell? ⟨g, j * 3, none⟩ = some (.int .i64 l[j].head) ∧ w.cell? ⟨g, j * 3 + 1, none⟩ = some (.slice p1 l[j].pos.length p2) ∧ w.cell? ⟨g, j * 3 + 2, none⟩ = some (.slice n1 l[j].neg.length n2) ∧ RulV (fun b => S b ∧ b ≠ g) w (.agg #[.int .i64 l[j].head, .slice p1 l[j].pos.length p2, .slice n1 l[j].neg.length n2]) l[j] := by
  obtain ⟨g', cap', cur, he, h1, h2, h3, h4, h5, h6⟩ := Own.flatE h (by rintro rfl; simp at hj)
  simp only [Value.slice.injEq, Option.some.injEq, Addr.mk.injEq, and_true] at he
  obtain ⟨rfl, -, rfl⟩ := he
  skip
  obtain ⟨cs, ⟨p, q, rfl, hu, hp, hq⟩, g3⟩ := h6.2 j _ (List.getElem?_eq_getElem hj)
  have h4' : cur.length = cap * 3 := h4
  obtain ⟨p1, p2, rfl⟩ := hp.shape
  obtain ⟨n1, n2, rfl⟩ := hq.shape
  have key : ∀ t (ht : t < 3) u, ([.int .i64 l[j].head, .slice p1 l[j].pos.length p2, .slice n1 l[j].neg.length n2] : List Value)[t]? = some u → w.cell? ⟨g, j * 3 + t, none⟩ = some u := fun t ht u hu2 => by
    have e0 := g3 t ht
    rw [List.getElem?_take_of_lt (by show j * 3 + t < l.length * 3; omega), hu2] at e0
    rw [h5.cell (by omega)]
    have : cur[j * 3 + t]? = some u := e0
    rw [List.getElem?_eq_getElem (by omega)] at this; exact this
  exact ⟨p1, p2, n1, n2, key 0 (by omega) _ rfl, key 1 (by omega) _ rfl, key 2 (by omega) _ rfl, _, _, rfl, hu, hp, hq⟩
theorem OwnU.frozen {S : Nat → Prop} {base : Nat} {w : World} {g n cap : Nat} {l : List (Rule)} (h : OwnU S base w g n cap l) (hl : l ≠ []) (j : Nat) : w.frozen? ⟨g, j, none⟩ = false := by
  obtain ⟨g', cap', cur, he, h1, h2, h3, h4, h5, h6⟩ := Own.flatE h hl
  simp only [Value.slice.injEq, Option.some.injEq, Addr.mk.injEq, and_true] at he
  obtain ⟨rfl, -⟩ := he
  exact h5.frozen j
theorem OwnU.set {S : Nat → Prop} {base : Nat} {w : World} {g n cap : Nat} {l : List (Rule)} (h : OwnU S base w g n cap l) (hn : n = l.length) {k : Nat} (hk : k < l.length) {y : Rule} {p1 n1 : Option Addr} {p2 n2 : Nat} (hy : RulV (fun b => S b ∧ b ≠ g) w (.agg #[.int .i64 y.head, .slice p1 y.pos.length p2, .slice n1 y.neg.length n2]) y) :
    OwnU S base (((w.setCell ⟨g, k * 3, none⟩ (.int .i64 y.head)).setCell ⟨g, k * 3 + 1, none⟩ (.slice p1 y.pos.length p2)).setCell ⟨g, k * 3 + 2, none⟩ (.slice n1 y.neg.length n2)) g n cap (l.set k y) := by
  have h9 := Own.setE (E := ruleE) (cs := [.int .i64 y.head, .slice p1 y.pos.length p2, .slice n1 y.neg.length n2]) h hn hk (by obtain ⟨p, q, e, h0, hp, hq⟩ := hy; simp only [Value.agg.injEq, Array.mk.injEq, List.cons.injEq, and_true, true_and] at e; obtain ⟨rfl, rfl⟩ := e; exact ⟨_, _, rfl, h0, hp, hq⟩)
  have e9 : k * (ruleE).sz = k * 3 := rfl
  rw [e9] at h9
  skip
  exact h9
theorem OwnU.to {S : Nat → Prop} {base : Nat} {w w' : World} {g n cap : Nat} {l : List (Rule)} (h : OwnU S base w g n cap l) (hw : Below w.heap.size w w') : OwnU S base w' g n cap l := Own.move h hw
theorem zeroU (w : World) : (zeroValue 46).run Tryz.prog w = .ok (Value.agg #[.int .i64 0, .slice none 0 0, .slice none 0 0]) w := by kernel_rfl

set_option maxHeartbeats 800000 in
theorem eqU_spec {w : World} {B : Nat} {S T : Nat → Prop} {v u : Value} {a b : Rule} (ha : RulV S w v a) (hb : RulV T w u b) (hB : w.cell? ⟨B, 0, none⟩ = some (.func (.func 40) #[] #[])) :
    Calls Tryz.prog 84 #[v, u, .pointer (some ⟨B, 0, none⟩)] w (RetV (.bool (decide (a = b))) w) := by
  have Ha := Lib.hid ha
  have Hb := Lib.hid hb
  obtain ⟨p, n, rfl, -⟩ := ha
  obtain ⟨p', n', rfl, -⟩ := hb
  have hBl := World.block_lt_of_cell? w _ hB
  have hBl1 : B < w.heap.size + 1 := Nat.lt_succ_of_lt hBl
  have hBl0 : B < w.heap.size := hBl
  go_enter Tryz.func84, Tryz.ntmps84
  go_wp2_with fail
  refine (orderP_spec (Ha.out.at Seq.way) (Hb.out.at Seq.way)).mono ?_
  rintro e w1 ⟨rfl, hb1, -⟩
  by_cases h : a = b
  · have h1 : (cmpU a b == 0) = true := by rw [cmpU_ok.zero.2 h]; rfl
    have hd := Lib.hid (decide_eq_true h)
    clear h
    go_wp2_with fail
    go_ret
    exact ⟨ret_bool hd.out.symm, below_step hb1 (Seq.way : Below w.heap.size w _)⟩
  · have h1 : (cmpU a b == 0) = false := by rw [beq_eq_false_iff_ne]; exact fun e => h (cmpU_ok.zero.1 e)
    have hd := Lib.hid (decide_eq_false h)
    clear h
    go_wp2_with fail
    go_ret
    exact ⟨ret_bool hd.out.symm, below_step hb1 (Seq.way : Below w.heap.size w _)⟩
set_option maxHeartbeats 12800000 in
set_option maxRecDepth 100000 in
theorem compactU_spec {S : Nat → Prop} {base B : Nat} {w : World} {v : Value} {l : List (Rule)} (hl : Own (ruleE) S base 46 w v l) (hbase : base ≤ w.heap.size) (hlen : l.length ≤ 1000000) (hB : w.cell? ⟨B, 0, none⟩ = some (.func (.func 40) #[] #[])) (hBb : B < base) :
    Calls Tryz.prog 83 #[v, .func (.func 84) #[] #[.pointer (some ⟨B, 0, none⟩)]] w fun e w' => ∃ r, e = .returned r ∧ Below base w w' ∧ Own (ruleE) S base 46 w' r (cptL l) := by
  by_cases h2 : l.length < 2
  · have HL := Lib.hid hl
    obtain ⟨ao, cap, rfl, -, -⟩ := hl.shape
    have He := Lib.hid (cp_one h2)
    clear hl
    go_enter Tryz.func83, Tryz.ntmps83
    go_wp2_with fail
    go_ret
    exact ⟨_, rfl, Below.refl _ _, by rw [He.out]; exact HL.out⟩
  · obtain ⟨g, cap, cur0, rfl, hg, hc1, hc2, -, hrow0, -⟩ := Own.flatE hl (by rintro rfl; simp at h2)
    have hgl := hrow0.lt
    have HL := Lib.hid (show OwnU S base w g l.length cap l from hl)
    have hne := Lib.hid (show l ≠ [] by rintro rfl; simp at h2)
    obtain ⟨n, hn⟩ : ∃ n, n = l.length := ⟨_, rfl⟩
    rw [← hn] at h2 hlen hc1
    rw [← hn]
    have HN := Lib.hid hn
    rw [← hn] at HL
    have Hbase := Lib.hid (show base ≤ w.heap.size ∧ base ≤ g from ⟨hbase, hg⟩)
    have HBc := Lib.hid (fun (W : World) (h : Below base w W) => (h.cell (p := ⟨B, 0, none⟩) hBb).trans hB)
    have h2' : ((n : Int) < 2) = False := by simp; omega
    clear hl hn hbase hg hgl hrow0 hB
    go_enter Tryz.func83, Tryz.ntmps83
    go_wp2_with fail
    clear h2'
    go_loopw [5] (fun i wr => ∃ k : Nat, 1 ≤ k ∧ k ≤ n ∧ i = .int .i64 k ∧ Hid (cptL (l.take k) = l.take k) ∧ Hid (Below base w wr) ∧ Hid (OwnU S base wr g n cap l)) (fun i _ => n - (intOf i).toNat)
    case atStart => exact ⟨1, Nat.le_refl _, by omega, rfl, Lib.hid (cp_one (by rw [List.length_take]; omega)), Lib.hid (Below.refl _ _), HL⟩
    case round =>
      obtain ⟨k, hk1, hk, rfl, hcp, hb, ho⟩ := hrel
      clear HL
      by_cases hlt : k < n
      · obtain ⟨j, rfl⟩ : ∃ j, k = j + 1 := ⟨k - 1, by omega⟩
        have CB := HBc.out _ hb.out
        have hwsz : base ≤ wr.heap.size := Nat.le_trans Hbase.out.1 hb.out.size
        have lB : B < wr.heap.size := Nat.lt_of_lt_of_le hBb hwsz
        obtain ⟨ap, aq, an, am, a0, a1, a2, aS⟩ := ho.out.cells (show j < l.length by have := HN.out; omega)
        obtain ⟨bp, bq, bn, bm, b0, b1, b2, bS⟩ := ho.out.cells (show j + 1 < l.length by have := HN.out; omega)
        obtain ⟨x, hx⟩ : ∃ x, x = l[j]'(by have := HN.out; omega) := ⟨_, rfl⟩
        obtain ⟨y, hy⟩ : ∃ y, y = l[j + 1]'(by have := HN.out; omega) := ⟨_, rfl⟩
        rw [← hx] at a0 a1 a2 aS
        rw [← hy] at b0 b1 b2 bS
        have aH := Lib.hid aS
        have bH := Lib.hid bS
        have HX := Lib.hid hx
        have HY := Lib.hid hy
        clear hx hy aS bS
        have hkl : ((j + 1 : Nat) : Int) < (n : Int) := by omega
        have hk0 : (0 : Int) ≤ ((j + 1 : Nat) : Int) := by omega
        have hj0 : ((j + 1 : Nat) : Int) - 1 = (j : Int) := by omega
        have hkp1 : (j : Int) + 1 < (n : Int) := by omega
        have hkp0 : (0 : Int) ≤ (j : Int) + 1 := by omega
        have hkt : ((j : Int) + 1).toNat = j + 1 := by omega
        have hjn : (j : Int) < (n : Int) := by omega
        have hjn0 : (0 : Int) ≤ (j : Int) := by omega
        have hkw : IntKind.i64.wrap (j : Int) = (j : Int) := by rw [IntKind.wrap_i64]; omega
        have hcj : ¬ cap = j + 1 := by omega
        go_upto_region 6 with fail
        go_still_tail 10, (by kernel_rfl)
        go_wp2_with fail
        refine (eqU_spec (w := wr.drew) (bH.out.at Seq.way) (aH.out.at Seq.way) CB).mono ?_
        rintro e w1 ⟨rfl, hb1⟩
        have hb1' := Lib.hid (below_step hb1 (Seq.way : Below wr.heap.size wr _))
        have hbe := Lib.hid (hb.out.trans (hb1'.out.mono hwsz))
        have ho1 := Lib.hid (ho.out.to hb1'.out)
        clear hb1 a0 a1 a2 b0 b1 b2 CB lB
        by_cases hxy : y = x
        · rw [decide_eq_true hxy]
          have HE := Lib.hid hxy
          clear hxy
          have hcp1 := Lib.hid (show cpN l (j + 2) = j + 1 ∧ cpC l (j + 2) = l from by
            have hjl : j + 1 < l.length := by have := HN.out; omega
            obtain ⟨q1, q2⟩ := cp_same hjl (show l[j] = l[j + 1] by rw [← HX.out, ← HY.out, HE.out])
            exact ⟨by rw [q2, cpN_low hcp.out (by omega)], by rw [q1, cpC_low hcp.out]⟩)
          clear hb ho
          go_wp2_with fail
          go_loopw [5, 7] (fun i q wr => ∃ i' k2 : Nat, i = .int .i64 i' ∧ q = .int .i64 k2 ∧ 1 ≤ k2 ∧ j + 1 + k2 ≤ n ∧ i' ≤ j + k2 ∧ Hid (i' = cpN l (j + 1 + k2)) ∧ Hid (Below base w wr) ∧ Hid (OwnU S base wr g n cap (cpC l (j + 1 + k2)))) (fun _ q _ => n - (j + 1 + (intOf q).toNat))
          case atStart => exact ⟨j + 1, 1, by go_num, by go_num, Nat.le_refl _, by omega, by omega, Lib.hid hcp1.out.1.symm, hbe, Lib.hid (by rw [hcp1.out.2]; exact ho1.out)⟩
          case round =>
            obtain ⟨i, k2, rfl, rfl, h21, h2n, hi2, hiN, hbw, how⟩ := hrel
            clear hbe ho1 hcp1 hcp hkl hk0 hj0 hjn hkp1 hkp0 hkt hjn0 hkw hb1' hwsz
            have HCL := Lib.hid (cpC_len l (j + 1 + k2))
            have hi0 : (0 : Int) ≤ (i : Int) := by omega
            have hk2 : (0 : Int) ≤ (k2 : Int) := by omega
            by_cases hlt2 : j + 1 + k2 < n
            · obtain ⟨m, rfl⟩ : ∃ m, k2 = m + 1 := ⟨k2 - 1, by omega⟩
              have hjl : j + 1 + (m + 1) < l.length := by have := HN.out; omega
              have CB := HBc.out _ hbw.out
              have hwsz : base ≤ wr.heap.size := Nat.le_trans Hbase.out.1 hbw.out.size
              have lB : B < wr.heap.size := Nat.lt_of_lt_of_le hBb hwsz
              obtain ⟨pp, pq, pn, pm, p0, p1, p2, pS⟩ := how.out.cells (show j + 1 + m < _ by rw [HCL.out]; omega)
              obtain ⟨rp, rq, rn, rm, r0, r1, r2, rS⟩ := how.out.cells (show j + 1 + (m + 1) < _ by rw [HCL.out]; omega)
              rw [cpC_get (show j + 1 + m < l.length by omega) (by have := hiN.out; omega)] at p0 p1 p2 pS
              rw [cpC_get hjl (by have := hiN.out; omega)] at r0 r1 r2 rS
              obtain ⟨x2, hx2⟩ : ∃ x, x = l[j + 1 + m]'(by omega) := ⟨_, rfl⟩
              obtain ⟨y2, hy2⟩ : ∃ y, y = l[j + 1 + (m + 1)] := ⟨_, rfl⟩
              rw [← hx2] at p0 p1 p2 pS
              rw [← hy2] at r0 r1 r2 rS
              rw [show (j + 1 + m) * 3 = (j + 1) * 3 + m * 3 by omega] at p0 p1 p2
              rw [show (j + 1 + (m + 1)) * 3 = (j + 1) * 3 + (m + 1) * 3 by omega] at r0 r1 r2
              have pH := Lib.hid pS
              have rH := Lib.hid rS
              have HX2 := Lib.hid hx2
              have HY2 := Lib.hid hy2
              have Hjl := Lib.hid hjl
              clear hx2 hy2 pS rS
              have hm1 : ((m + 1 : Nat) : Int) - 1 = (m : Int) := by omega
              have hmn : (m : Int) < ((n - (j + 1) : Nat) : Int) := by omega
              have hmn1 : ((m + 1 : Nat) : Int) < ((n - (j + 1) : Nat) : Int) := by omega
              have hmp1 : (m : Int) + 1 < ((n - (j + 1) : Nat) : Int) := by omega
              have hmp0 : (0 : Int) ≤ (m : Int) + 1 := by omega
              have hmt : ((m : Int) + 1).toNat = m + 1 := by omega
              have hm0 : (0 : Int) ≤ (m : Int) := by omega
              have hmw : IntKind.i64.wrap (m : Int) = (m : Int) := by rw [IntKind.wrap_i64]; omega
              go_upto_region 11 with fail
              go_still_tail 10, (by kernel_rfl)
              go_wp2_with fail
              refine (eqU_spec (w := wr.drew) (rH.out.at Seq.way) (pH.out.at Seq.way) CB).mono ?_
              rintro e w1 ⟨rfl, hb1⟩
              have hb1' := Lib.hid (below_step hb1 (Seq.way : Below wr.heap.size wr _))
              have hbe := Lib.hid (hbw.out.trans (hb1'.out.mono hwsz))
              have ho1 := Lib.hid (how.out.to hb1'.out)
              clear hb1 p0 p1 p2 r0 r1 r2 CB lB
              by_cases hxy2 : y2 = x2
              · rw [decide_eq_true hxy2]
                have HE2 := Lib.hid hxy2
                clear hxy2
                go_wp2_with fail
                go_roundw
                case rel =>
                  obtain ⟨q1, q2⟩ := cp_same (l := l) (k := j + 1 + m) Hjl.out (by rw [← HX2.out, ← HE2.out, HY2.out]; rfl)
                  exact ⟨i, m + 2, rfl, by go_num, by omega, by omega, by omega, Lib.hid (by rw [hiN.out]; exact q2.symm), hbe, Lib.hid (by rw [show j + 1 + (m + 2) = j + 1 + m + 2 by omega, q1]; exact ho1.out)⟩
                case measure => simp [intOf]; omega
              · rw [decide_eq_false hxy2]
                have HE2 := Lib.hid hxy2
                have hiw : i < (cpC l (j + 1 + (m + 1))).length := by rw [HCL.out, ← HN.out]; omega
                obtain ⟨op, oq, on, om, o0, o1, o2, oS⟩ := ho1.out.cells (show i < _ from hiw)
                obtain ⟨rp, rq, rn, rm, r0, r1, r2, rS⟩ := ho1.out.cells (show j + 1 + (m + 1) < _ by rw [HCL.out]; exact Hjl.out)
                rw [cpC_get Hjl.out (by have := hiN.out; omega), ← HY2.out] at r0 r1 r2 rS
                rw [show (j + 1 + (m + 1)) * 3 = (j + 1) * 3 + (m + 1) * 3 by omega] at r0 r1 r2
                have rH2 := Lib.hid rS
                have hwe : cpC l (j + 1 + (m + 1)) ≠ [] := by intro h; rw [h] at hiw; simp at hiw
                have f0 := ho1.out.frozen hwe (i * 3)
                have f1 := ho1.out.frozen hwe (i * 3 + 1)
                have f2 := ho1.out.frozen hwe (i * 3 + 2)
                generalize (cpC l (j + 1 + (m + 1)))[i] = z at o0 o1 o2 oS
                have hin : (i : Int) < (n : Int) := by omega
                clear hwe hiw hxy2 oS rS
                go_wp2_with fail
                go_roundw
                case rel =>
                  obtain ⟨q1, q2⟩ := cp_new (l := l) (k := j + 1 + m) Hjl.out (fun h => HE2.out (by rw [HX2.out, HY2.out]; exact h.symm))
                  have hset := OwnU.set ho1.out (by rw [HCL.out]; exact HN.out) (k := i) (by rw [HCL.out, ← HN.out]; omega) rH2.out
                  refine ⟨i + 1, m + 2, by go_num, by go_num, by omega, by omega, by omega, Lib.hid (by rw [hiN.out]; exact q2.symm), Lib.hid (below_store (below_store (below_store hbe.out Hbase.out.2 Hbase.out.1 _) Hbase.out.2 Hbase.out.1 _) Hbase.out.2 Hbase.out.1 _), Lib.hid ?_⟩
                  rw [show j + 1 + (m + 2) = j + 1 + m + 2 by omega, q1, show l[j + 1 + m + 1]'Hjl.out = y2 from HY2.out.symm]
                  rw [hiN.out] at hset ⊢
                  exact hset
                case measure => simp [intOf]; omega
            · have hend := Lib.hid (show j + 1 + k2 = n by omega)
              have hke : ((k2 : Int) < ((n - (j + 1) : Nat) : Int)) = False := by simp; omega
              have hin : i < n := by omega
              clear hlt2
              have HZ : ∀ t, t < n * 3 → (wr.cell? ⟨g, t, none⟩).isSome = true := fun t ht => by
                have hlc := HCL.out
                have hn2 := HN.out
                obtain ⟨p1, p2, n1, n2, u0, u1, u2, -⟩ := how.out.cells (j := t / 3) (by omega)
                rcases (show t % 3 = 0 ∨ t % 3 = 1 ∨ t % 3 = 2 by omega) with h | h | h
                · rw [show t / 3 * 3 = t by omega] at u0; rw [u0]; rfl
                · rw [show t / 3 * 3 + 1 = t by omega] at u1; rw [u1]; rfl
                · rw [show t / 3 * 3 + 2 = t by omega] at u2; rw [u2]; rfl
              have hwe : cpC l (j + 1 + k2) ≠ [] := by intro h; have := HCL.out; rw [h, ← HN.out] at this; simp at this; omega
              have HF := how.out.frozen hwe
              have hzl : (Builtin.zeroCells (Value.agg #[.int .i64 0, .slice none 0 0, .slice none 0 0]).cells (n - i)).toList.length = (n - i) * 3 := by simp [Builtin.zeroCells, Value.cells]
              obtain ⟨news, hnews⟩ : ∃ news, news = (Builtin.zeroCells (Value.agg #[.int .i64 0, .slice none 0 0, .slice none 0 0]).cells (n - i)).toList := ⟨_, rfl⟩
              have hclr : ∀ ty, (Builtin.clear_ #[24] ty #[.slice (some ⟨g, i * 3, none⟩) (n - i) (cap - i)]).run Tryz.prog wr = .ok (.tuple #[]) (wr.setCells g (i * 3) news) :=
                fun ty => by
                  rw [hnews]
                  exact run_clear_sliceK wr _ _ ty _ Tryz.underlying24 zeroU (by simp [Value.cells, Value.oneCell']) g (i * 3) _ _ (by omega) (fun t ht => by
                    have ht' : t < (n - i) * 3 := ht
                    exact HZ _ (by omega)) (fun t _ => HF _)
              rw [← hnews] at hzl
              have Hzl := Lib.hid hzl
              have hmc : ¬ cap = i := by omega
              have hic : (i : Int) ≤ (n : Int) := by omega
              clear hnews hzl HZ HF hwe
              go_wp2_with fail
              go_ret
              have hown := own_clear (E := ruleE) how.out (by rw [HCL.out]; exact HN.out) (i := i) (by rw [HCL.out, ← HN.out]; exact hin) (cs := news) Hzl.out
              have e9 : i * (ruleE).sz = i * 3 := rfl
              rw [e9] at hown
              refine ⟨_, rfl, below_stores hbw.out Hbase.out.2 Hbase.out.1 _, ?_⟩
              rw [hend.out, HN.out, hiN.out, hend.out, HN.out] at hown
              rw [hiN.out, hend.out, HN.out, ← cp_end l]
              exact hown
        · rw [decide_eq_false hxy]
          have HE := Lib.hid hxy
          clear hxy
          go_wp2_with fail
          go_roundw
          case rel => exact ⟨j + 2, by omega, by omega, by go_num, Lib.hid (cp_next (by have := HN.out; omega) hcp.out fun h => HE.out (by rw [HX.out, HY.out]; exact h.symm)), hbe, ho1⟩
          case measure => simp [intOf]; omega
      · have hkn := Lib.hid (show k = n by omega)
        have hkx : ((k : Int) < (n : Int)) = False := by simp; omega
        clear hlt
        go_wp2_with fail
        go_ret
        have e := hcp.out
        rw [hkn.out, List.take_of_length_le (by have := HN.out; omega)] at e
        exact ⟨_, rfl, hb.out, by rw [e]; exact ho.out⟩
end Go.Proofs.YtaedgpcmkagpeaaGreat
