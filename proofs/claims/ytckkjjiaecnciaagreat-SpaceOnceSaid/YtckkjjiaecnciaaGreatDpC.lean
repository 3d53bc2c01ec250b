/-
  R01: Place, Number. R14: Has, Atom, Instance, Find, Ints.
-/
import Derived.Test.YtckkjjiaecnciaaGreatDpB
import Derived.Test.YtckkjjiaecnciaaGreatMtL
import Derived.Test.YtckkjjiaecnciaaGreatTmK
namespace Go.Proofs.YtckkjjiaecnciaaGreat
open Go Go.RowKit

/-- A row, as it stays when nothing below is written. -/
def RowA (T : TypeId) (w : World) (B : Nat) (vs : List Value) : Prop := Row T w B vs
theorem RowA.at {T : TypeId} {W w' : World} {B : Nat} {vs : List Value} (h : RowA T W B vs) (hb : Below W.heap.size W w') : RowA T w' B vs := Row.below h hb h.lt
theorem RowA.row {T : TypeId} {W : World} {B : Nat} {vs : List Value} (h : RowA T W B vs) : Row T W B vs := h
theorem Drew.belowS {w w' : World} (h : Drew w w') : Below w.heap.size w w' := h.below _
theorem numT_len (t : List Cell) : (numT t).length = t.length := List.length_map ..
def mapTo {α : Type} (f : α → α) (o : List α) (k : Nat) : List α := (o.take k).map f ++ o.drop k
theorem mapTo_len {α : Type} (f : α → α) (o : List α) (k : Nat) : (mapTo f o k).length = o.length := by unfold mapTo; simp; omega
theorem mapTo_at {α : Type} {f : α → α} {o : List α} {k : Nat} (hk : k < o.length) : (mapTo f o k)[k]? = some o[k] := by
  unfold mapTo
  rw [List.getElem?_append_right (by simp; omega), List.getElem?_drop]
  simp only [List.length_map, List.length_take]
  rw [show k + (k - min k o.length) = k by omega, List.getElem?_eq_getElem hk]
theorem mapTo_step {α : Type} {f : α → α} {o : List α} {k : Nat} (hk : k < o.length) : mapTo f o (k + 1) = (mapTo f o k).set k (f o[k]) := by
  have hl : ((o.take k).map f).length = k := by simp; omega
  unfold mapTo
  rw [List.take_succ_eq_append_getElem hk, List.map_append, List.append_assoc]
  conv => rhs; rw [List.drop_eq_getElem_cons hk]
  rw [List.set_append_right _ _ (by omega), hl, Nat.sub_self]
  rfl
theorem mapTo_same {α : Type} {f : α → α} {o : List α} {k : Nat} (hk : k < o.length) (h : f o[k] = o[k]) : mapTo f o (k + 1) = mapTo f o k := by
  rw [mapTo_step hk, h]
  apply List.ext_getElem?
  intro j
  rw [List.getElem?_set]
  by_cases hkj : k = j
  · subst hkj
    rw [if_pos rfl, if_pos (by rw [mapTo_len]; exact hk), mapTo_at hk]
  · rw [if_neg hkj]
theorem mapTo_all {α : Type} (f : α → α) (o : List α) : mapTo f o o.length = o.map f := by unfold mapTo; simp
theorem placeN_rng (l : List Int) (n : Int) : -1 ≤ placeN l n ∧ placeN l n < max 1 l.length := by
  unfold placeN
  rcases idxZ_cases (fun x => decide (x = n)) l with ⟨h, -⟩ | ⟨k, hk, h, -⟩ <;> rw [h] <;> omega

set_option maxRecDepth 100000 in
theorem PlaceR1_spec {S : Nat → Prop} {w : World} {v : Value} {l : List Int} {n : Int} (hl : Seq intE S w v l) :
    Calls Tryz.prog 55 #[v, .int .i64 n] w (PureV (.int .i64 (placeN l n)) w) := by
  obtain ⟨ao, cap, rfl, h1, h2, h3, -, h5⟩ := hl
  go_enter Tryz.func55, Tryz.ntmps55
  go_wp2_with fail
  go_loopw [5] (fun i wr => ∃ k : Nat, k ≤ l.length ∧ i = .int .i64 k ∧ Hid (∀ j (h : j < l.length), j < k → l[j] ≠ n) ∧ w = wr) (fun i _ => l.length - (intOf i).toNat)
  case atStart => exact ⟨0, Nat.zero_le _, rfl, Lib.hid (fun i _ h => absurd h (Nat.not_lt_zero _)), rfl⟩
  case round =>
    obtain ⟨k, hk, rfl, hno, rfl⟩ := hrel
    by_cases hlt : k < l.length
    · obtain ⟨b, off, rfl, -, -, c0, -⟩ := h5.int hlt
      have hy := Lib.hid (show l[k] = n → placeN l n = k from fun h => idxZ_hit hlt (decide_eq_true h) fun j hj hjk => decide_eq_false (hno.out j hj hjk))
      have hz := Lib.hid (show l[k] ≠ n → ∀ i (h : i < l.length), i < k + 1 → l[i] ≠ n from fun h i hi hlt => by
        by_cases e : i = k
        · subst e; exact h
        · exact hno.out i hi (by omega))
      obtain ⟨x, hx⟩ : ∃ x, x = l[k] := ⟨_, rfl⟩
      rw [← hx] at c0 hy hz
      clear hx h5
      have hkl : (k : Int) < (l.length : Int) := by omega
      have hk0 : (0 : Int) ≤ (k : Int) := by omega
      by_cases he : x = n
      · have hy' := Lib.hid (hy.out he)
        have he' : (x == n) = true := by simp [he]
        clear hy hz he
        go_wp2_with fail
        go_ret
        exact ⟨ret_int hy'.out.symm, rfl⟩
      · have hz' := Lib.hid (hz.out he)
        have he' : (x == n) = false := by simp [he]
        clear hy hz he
        go_wp2_with fail
        go_roundw
        case rel => exact ⟨k + 1, hlt, by go_num, hz', trivial⟩
        case measure => simp [intOf]; omega
    · obtain rfl : k = l.length := by omega
      have hd := Lib.hid (show placeN l n = -1 from idxZ_miss fun j hj => decide_eq_false (hno.out j hj hj))
      go_wp2_with fail
      go_ret
      exact ⟨ret_int hd.out.symm, rfl⟩

theorem Own.setN {S : Nat → Prop} {base : Nat} {e : TypeId} {w : World} {g cap : Nat} {xs : List Cell} (h : Own cellE S base e w (.slice (some ⟨g, 0, none⟩) xs.length cap) xs) {k : Nat} (hk : k < xs.length) {c : Cell} (hc : xs[k]? = some c) {n : Int} (h2 : IntOK n) :
    Own cellE S base e (w.setCell ⟨g, k * 3 + 2, none⟩ (.int .i64 n)) (.slice (some ⟨g, 0, none⟩) xs.length cap) (xs.set k { c with n := n }) := by
  obtain ⟨vs, hv1, hv2⟩ := h
  have hl : vs.length = xs.length * 3 := hv1.1
  have e1 := ownsRow_set hv1 (j := k * 3 + 2) (by show k * 3 + 2 < xs.length * 3; omega) (.int .i64 n)
  refine ⟨_, by rw [List.length_set]; exact e1, fun m x hx => ?_⟩
  by_cases hkm : k = m
  · subst hkm
    rw [List.getElem?_set_self hk] at hx
    simp only [Option.some.injEq] at hx
    subst hx
    obtain ⟨cs, ⟨rfl, h1, -, h3⟩, h5⟩ := hv2 k _ hc
    refine ⟨_, ⟨rfl, h1, h2, h3⟩, fun j hj => ?_⟩
    have hj3 : j < 3 := hj
    have h6 := h5 j hj
    show (vs.set (k * 3 + 2) _)[k * 3 + j]? = _
    rcases (show j = 0 ∨ j = 1 ∨ j = 2 by omega) with rfl | rfl | rfl
    · rw [List.getElem?_set_ne (by omega)]; exact h6
    · rw [List.getElem?_set_ne (by omega)]; exact h6
    · rw [List.getElem?_set_self (by omega)]; rfl
  · rw [List.getElem?_set_ne hkm] at hx
    obtain ⟨cs, h4, h5⟩ := hv2 m x hx
    refine ⟨cs, h4, fun j hj => ?_⟩
    have hj3 : j < 3 := hj
    have := h5 j hj
    show (vs.set (k * 3 + 2) _)[m * 3 + j]? = _
    rw [List.getElem?_set_ne (by omega)]
    exact this

set_option maxHeartbeats 3200000 in
set_option maxRecDepth 100000 in
theorem NumberR_spec {S : Nat → Prop} {w : World} {v : Value} {t : List Cell} (ht : Seq cellE S w v t) (hpos : 0 < t.length) (hlen : t.length ≤ 1000000) :
    Calls Tryz.prog 34 #[v] w (Ret (fun r w' => Seq cellE (fun b => w.heap.size ≤ b) w' r (numT t)) w) := by
  have Ht := Lib.hid ht.bnd
  obtain ⟨ta, tc, rfl⟩ := ht.shape
  clear ht
  go_enter Tryz.func34, Tryz.ntmps34
  go_wp2_with fail
  refine (VarsR_spec Ht.out (by omega)).mono ?_
  rintro e w1 ⟨v1, rfl, hb1, hs1⟩
  obtain ⟨va, vc, rfl⟩ := hs1.shape
  have hvl := varsL_len t
  have hnT := Lib.hid (show numT t = t.map (numC (varsL t)) from rfl)
  obtain ⟨l, hl⟩ : ∃ l, l = varsL t := ⟨_, rfl⟩
  rw [← hl] at hs1 hvl hnT ⊢
  have HV := Lib.hid hs1
  have Hb1 := Lib.hid hb1
  have HT1 := Lib.hid (Ht.out.at hb1)
  have hz1 := hb1.size
  clear hl hs1 hb1
  have hown0 : Own cellE (fun b => b < w1.heap.size) w1.heap.size 51 (w1.alloc (.cells #[] 51)) (.slice (some ⟨w1.heap.size, 0, none⟩) 0 0) [] := Own.lit0 rfl (Nat.le_refl _) rfl
  go_wp2_with (at_builtin; refine wpList_appL (wm := w1.alloc (.cells #[] 51)) (zs := t) rfl _ _ 23 rfl Tryz.underlying23 infoCell rfl rfl hown0 (Below.refl _ _) rfl (HT1.out.bnd.at Seq.way) (fun b h _ => ⟨by simpa using h.2, .inl (by simpa using h.2)⟩) rfl (by omega) (by omega) (by simp) ?_)
  intro ao2 cap2 w2 hown2 hk2
  have Hk2 := Lib.hid (Below.trans (Seq.way : Below w1.heap.size w1 (w1.alloc (.cells #[] 51))) hk2.below)
  have HV2 := Lib.hid (HV.out.at Hk2.out)
  have H12 := Lib.hid (below_step Hk2.out Hb1.out)
  obtain ⟨g, hg⟩ : ∃ g, ao2 = some ⟨g, 0, none⟩ := by
    obtain ⟨vs, hv, -⟩ := hown2
    obtain ⟨g, cap, hv', -⟩ := own_cell hv (i := 0) (by show 0 < t.length * 3; omega)
    simp only [Value.slice.injEq] at hv'
    exact ⟨g, hv'.1⟩
  subst hg
  have hown2' : Own cellE (fun _ => True) w1.heap.size 51 w2 (.slice (some ⟨g, 0, none⟩) t.length cap2) (mapTo (numC l) t 0) := by simpa [mapTo] using hown2.cellS
  have Hown2 := Lib.hid hown2'
  clear hown2 hown2' hown0 hk2
  have hgb : w1.heap.size ≤ g := (Hown2.out.blk (b := g) rfl).1
  go_wp2_with fail
  go_loopw [5] (fun i wr => ∃ k : Nat, k ≤ t.length ∧ i = .int .i64 k ∧ Hid (Own cellE (fun _ => True) w1.heap.size 51 wr (.slice (some ⟨g, 0, none⟩) t.length cap2) (mapTo (numC l) t k)) ∧ Hid (Below w1.heap.size w1 wr)) (fun i _ => t.length - (intOf i).toNat)
  case atStart => exact ⟨0, Nat.zero_le _, rfl, Hown2, Hk2⟩
  case round =>
    obtain ⟨k, hk, rfl, Hown, Hbr⟩ := hrel
    have hzr := Hbr.out.size
    by_cases hlt : k < t.length
    · have hvl := mapTo_len (numC l) t k
      obtain ⟨_, _, e2, -, -, -, -, hs5⟩ := Hown.out.seq (T := fun _ => True) (by omega) fun _ _ _ => trivial
      simp only [Value.slice.injEq] at e2
      obtain ⟨rfl, -, rfl⟩ := e2
      obtain ⟨b, off, e3, -, hb, c0, c1, c2, ok0, ok2, ok3⟩ := hs5.cell (show k < (mapTo (numC l) t k).length by omega)
      simp only [Option.some.injEq, Addr.mk.injEq, and_true] at e3
      obtain ⟨rfl, rfl⟩ := e3
      have hoe : (mapTo (numC l) t k)[k]'(by omega) = t[k] := by
        have := mapTo_at (f := numC l) hlt
        rw [List.getElem?_eq_getElem (by omega)] at this
        simpa using this
      rw [hoe] at c0 c1 c2 ok0 ok2 ok3
      simp only [Nat.zero_add] at c0 c1 c2
      have hfz : wr.frozen? ⟨g, k * 3 + 2, none⟩ = false := by
        obtain ⟨vs, hv, -⟩ := Hown.out
        obtain ⟨g', cap', hv', -, -, -, hfz⟩ := own_cell hv (i := 0) (by show 0 < (mapTo (numC l) t k).length * 3; omega)
        simp only [Value.slice.injEq, Option.some.injEq, Addr.mk.injEq, and_true] at hv'
        obtain ⟨rfl, -⟩ := hv'
        exact hfz _
      have hst := Lib.hid (mapTo_step (f := numC l) hlt)
      have hsm := Lib.hid (mapTo_same (f := numC l) hlt)
      have Hvl := Lib.hid hvl
      have hCk := Lib.hid (mapTo_at (f := numC l) hlt)
      obtain ⟨c, hc⟩ : ∃ c, c = t[k] := ⟨_, rfl⟩
      rw [← hc] at c0 c1 c2 ok0 ok2 ok3 hst hsm hCk
      clear hc hs5 hoe hvl
      have hkl : (k : Int) < (t.length : Int) := by omega
      have hk0 : (0 : Int) ≤ (k : Int) := by omega
      by_cases h1 : c.kind = 1
      · have hs := Lib.hid (show mapTo (numC l) t (k + 1) = (mapTo (numC l) t k).set k { c with n := placeN l c.n } by rw [hst.out]; unfold numC; rw [if_pos h1])
        have h1' : (c.kind == 1) = true := by simpa using h1
        have hpr := placeN_rng l c.n
        have HVr := Lib.hid (HV.out.at Hbr.out)
        have HFin := Lib.hid (show Own cellE (fun _ => True) w1.heap.size 51 (wr.setCell ⟨g, k * 3 + 2, none⟩ (.int .i64 (placeN l c.n))) (.slice (some ⟨g, 0, none⟩) t.length cap2) (mapTo (numC l) t (k + 1)) by
          have H3 := Own.setN (S := fun _ => True) (base := w1.heap.size) (e := 51) (w := wr) (g := g) (cap := cap2) (xs := mapTo (numC l) t k) (by rw [Hvl.out]; exact Hown.out) (k := k) (by rw [Hvl.out]; exact hlt) (c := c) hCk.out (n := placeN l c.n) ⟨by omega, by omega⟩
          rw [Hvl.out] at H3
          rw [hs.out]
          exact H3)
        clear hst hsm hs h1
        go_wp2_with fail
        refine (PlaceR1_spec HVr.out).mono ?_
        rintro e _ ⟨rfl, rfl⟩
        have HBF := Lib.hid (Hbr.out.setCell (p := ⟨g, k * 3 + 2, none⟩) hgb (.int .i64 (placeN l c.n)))
        go_wp2_with fail
        go_roundw
        case rel => exact ⟨k + 1, hlt, by go_num, HFin, HBF⟩
        case measure => simp [intOf]; omega
      · have hs := Lib.hid (hsm.out (by unfold numC; rw [if_neg h1]))
        have h1' : (c.kind == 1) = false := by simpa using h1
        clear hst hsm
        go_wp2_with fail
        go_roundw
        case rel => exact ⟨k + 1, hlt, by go_num, Lib.hid (by rw [hs.out]; exact Hown.out), Hbr⟩
        case measure => simp [intOf]; omega
    · obtain rfl : k = t.length := by omega
      have hfin := Lib.hid (show Seq cellE (fun b => w.heap.size ≤ b) wr (.slice (some ⟨g, 0, none⟩) t.length cap2) (numT t) by
        have h := Hown.out
        rw [mapTo_all] at h
        rw [hnT.out]
        have hml : (t.map (numC l)).length = t.length := List.length_map ..
        exact (h.cellS (T := fun _ => False)).seq (T := fun b => w.heap.size ≤ b) (by omega) fun b _ h => h.elim False.elim fun h => by omega)
      go_wp2_with fail
      go_ret
      exact ⟨_, rfl, below_step Hbr.out Hb1.out, hfin.out⟩
end Go.Proofs.YtckkjjiaecnciaaGreat
