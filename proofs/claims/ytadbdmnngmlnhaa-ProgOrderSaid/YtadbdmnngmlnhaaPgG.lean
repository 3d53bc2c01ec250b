/-
  Layer 7, the document: raising levels, and the levels (links are known already).
-/
import Derived.Test.YtadbdmnngmlnhaaPgF
import Derived.Deep.CutBlock
namespace Go.Proofs.Ytadbdmnngmlnhaa
open Go Go.RowKit

/-! ### One number of a row of one's own is written -/
theorem ownsRow_set {w : World} {base : Nat} {e : TypeId} {sz : Nat} {n cap g : Nat} {vs : List Value} (h : w.ownsRow base e sz (.slice (some ⟨g, 0, none⟩) n cap) n vs) {j : Nat} (_ : j < n * sz) (u : Value) :
    (w.setCell ⟨g, j, none⟩ u).ownsRow base e sz (.slice (some ⟨g, 0, none⟩) n cap) n (vs.set j u) := by
  obtain ⟨hl, ⟨h0, -⟩ | ⟨g', cap', cur, he, h0, h1, h2, h3, h4, h5⟩⟩ := h
  · simp at h0
  · simp only [Value.slice.injEq, Option.some.injEq, Addr.mk.injEq, true_and, and_true] at he
    obtain ⟨rfl, rfl⟩ := he
    refine ⟨by rw [List.length_set]; exact hl, .inr ⟨g, cap, cur.setIfInBounds j u, rfl, h0, ?_, h2, h3, by simpa using h4, ?_⟩⟩
    · have hlt : g < w.heap.size := by
        rcases Nat.lt_or_ge g w.heap.size with hlt | hge
        · exact hlt
        · rw [Array.getElem?_eq_none hge] at h1; simp at h1
      rw [Array.getElem?_eq_getElem hlt] at h1
      simp only [Option.some.injEq] at h1
      simp [World.setCell, Array.getElem?_modify, Array.getElem?_eq_getElem hlt, h1]
    · rw [Array.toList_setIfInBounds, List.take_set, h5]
theorem Own.getI {S : Nat → Prop} {base : Nat} {e : TypeId} {w : World} {v : Value} {xs : List Int} (h : Own intE S base e w v xs) {k : Nat} (hk : k < xs.length) :
    ∃ g cap, v = .slice (some ⟨g, 0, none⟩) xs.length cap ∧ base ≤ g ∧ g < w.heap.size ∧ (∀ j (hj : j < xs.length), w.cell? ⟨g, j, none⟩ = some (.int .i64 xs[j])) ∧ ∀ j, w.frozen? ⟨g, j, none⟩ = false := by
  obtain ⟨vs, hv, h2⟩ := h
  obtain ⟨g, cap, rfl, g1, g2, -, g4⟩ := own_cell hv (i := k) (by show k < xs.length * 1; omega)
  refine ⟨g, cap, rfl, g1, g2, fun j hj => ?_, g4⟩
  obtain ⟨g', cap', e', -, -, g3, -⟩ := own_cell hv (i := j) (by show j < xs.length * 1; omega)
  simp only [Value.slice.injEq, Option.some.injEq, Addr.mk.injEq, true_and, and_true] at e'
  obtain ⟨rfl, -⟩ := e'
  rw [g3]
  obtain ⟨cs, ⟨rfl, -⟩, h4⟩ := h2 j _ (List.getElem?_eq_getElem hj)
  have := h4 0 (by decide)
  simpa [intE] using this
theorem Own.setI {S : Nat → Prop} {base : Nat} {e : TypeId} {w : World} {g cap n : Nat} {xs : List Int} (h : Own intE S base e w (.slice (some ⟨g, 0, none⟩) n cap) xs) (hn : n = xs.length) {k : Nat} (hk : k < xs.length) {y : Int} (hy : IntOK y) :
    Own intE S base e (w.setCell ⟨g, k, none⟩ (.int .i64 y)) (.slice (some ⟨g, 0, none⟩) n cap) (xs.set k y) := by
  subst hn
  obtain ⟨vs, hv1, hv2⟩ := h
  have hl : vs.length = xs.length * 1 := hv1.1
  refine ⟨_, by rw [List.length_set]; exact ownsRow_set hv1 (j := k) (by show k < xs.length * 1; omega) (.int .i64 y), fun m x hx => ?_⟩
  by_cases hkm : k = m
  · subst hkm
    rw [List.getElem?_set_self hk] at hx
    simp only [Option.some.injEq] at hx
    subst hx
    refine ⟨_, ⟨rfl, hy⟩, fun j hj => ?_⟩
    have hj3 : j < 1 := hj
    obtain rfl : j = 0 := by omega
    show (vs.set k _)[k * 1 + 0]? = _
    rw [Nat.mul_one, Nat.add_zero, List.getElem?_set_self (by omega)]; rfl
  · rw [List.getElem?_set_ne hkm] at hx
    obtain ⟨cs, h4, h5⟩ := hv2 m x hx
    refine ⟨cs, h4, fun j hj => ?_⟩
    have hj3 : j < 1 := hj
    obtain rfl : j = 0 := by omega
    have := h5 0 hj
    show (vs.set k _)[m * 1 + 0]? = _
    rw [Nat.mul_one, Nat.add_zero, List.getElem?_set_ne hkm]
    simpa [intE] using this

theorem natsI_set (m : List Nat) (k v : Nat) : (natsI m).set k (v : Int) = natsI (m.set k v) := by
  unfold natsI; rw [List.map_set]
theorem natsI_lv {m : List Nat} {k : Nat} (h : k < m.length) : (natsI m)[k]'(by rw [natsI_len]; exact h) = (lv m k : Int) := by rw [natsI_get h, lv_get h]
/-- The links in range, the levels not too high. -/
def RngK (K : List Lnk) (n : Nat) : Prop := ∀ k ∈ K, k.fr < n ∧ k.to < n
theorem foldD_succ {K : List Lnk} {m : List Nat} {k : Nat} (h : k < K.length) : (K.take (k + 1)).foldl (fun a k => bump m a k) m = bump m ((K.take k).foldl (fun a k => bump m a k) m) K[k] := by
  rw [List.take_succ_eq_append_getElem h, List.foldl_append]; rfl
theorem bump_no {s a : List Nat} {k : Lnk} (hk : k.fr < a.length) (h : ¬ lv a k.fr < lv s k.to + k.w) : bump s a k = a := bump_id (by omega) hk
theorem bump_yes {s a : List Nat} {k : Lnk} (h : lv a k.fr < lv s k.to + k.w) : bump s a k = a.set k.fr (lv s k.to + k.w) := by unfold bump; rw [Nat.max_eq_right (by omega)]
theorem bump_bound {s a : List Nat} {k : Lnk} {B : Nat} (hk : k.fr < a.length) (ha : ∀ i, lv a i ≤ B + 1) (hs : ∀ i, lv s i ≤ B) : ∀ i, lv (bump s a k) i ≤ B + 1 := fun i => by
  unfold bump
  rw [lv_set hk]
  have hw : k.w ≤ 1 := by unfold Lnk.w; split <;> omega
  have := hs k.to
  have := ha k.fr
  split
  · omega
  · exact ha i

set_option maxHeartbeats 3200000 in
set_option maxRecDepth 100000 in
theorem RaiseR_spec {S T : Nat → Prop} {w : World} {v u : Value} {m : List Nat} {K : List Lnk} {n B : Nat} (hm : Seq intE S w v (natsI m)) (hK : Seq lnkE T w u K) (hr : RngK K n) (hn : m.length = n) (hnn : n ≤ 1000000) (hB : B ≤ 1000000) (hb : ∀ i, lv m i ≤ B) :
    Calls Try.prog 48 #[v, u] w (Ret (fun r w' => Seq intE (fun b => w.heap.size ≤ b) w' r (natsI (raiseD K m))) w) := by
  have hml := natsI_len m
  have HMs := Lib.hid hm.bnd
  obtain ⟨ma, mc, rfl, -, -, hml2, -, -⟩ := hm
  obtain ⟨ka, kc, rfl, -, -, hkl, -, h5⟩ := hK.bnd
  have H5 := Lib.hid h5
  have Hr := Lib.hid hr
  have Hb := Lib.hid hb
  have Hn := Lib.hid hn
  clear h5 hr hb
  rw [hml] at hml2 HMs ⊢
  go_enter Try.func48, Try.ntmps48
  have hM0 := Lib.hid (show Seq intE (fun b => S b ∧ b < w.heap.size) (w.alloc (.cells #[] 3)) (.slice ma m.length mc) (natsI m) from HMs.out.at Seq.way)
  obtain ⟨M, hM⟩ : ∃ M, M = natsI m := ⟨_, rfl⟩
  rw [← hM] at HMs hM0 hml
  have HM := Lib.hid hM
  have Hml := Lib.hid hml
  clear hM hml hn
  go_wp2_with (at_builtin; (refine wpList_appL (S := fun _ => True) (base := w.heap.size) (wm := w.alloc (.cells #[] 3)) (zs := M) rfl _ _ 33 rfl Try.underlying33 infoInt rfl rfl (Own.lit0 rfl (Nat.le_refl _) rfl) (Below.refl _ _) rfl hM0.out (fun b h _ => ⟨trivial, .inl h.2⟩) rfl (by omega) (by have := Hml.out; have := Hn.out; omega) (by simp) ?_))
  intro oa5 oc5 w5 hown5 hk5
  have H6 := Lib.hid hown5
  have K6 := Lib.hid ((Seq.way : Below w.heap.size w (w.alloc (.cells #[] 3))).trans hk5.below)
  clear hown5 hk5 hM0
  rw [Hml.out] at H6 ⊢
  go_wp2_with fail
  go_loopw [6] (fun i wr => ∃ (k : Nat) (a : List Nat), k ≤ K.length ∧ i = .int .i64 k ∧ Hid (a.length = n) ∧ Hid (∀ i, lv a i ≤ B + 1) ∧ Hid (a = (K.take k).foldl (fun a k => bump m a k) m) ∧ Hid (Own intE (fun _ => True) w.heap.size 3 wr (.slice oa5 m.length oc5) (natsI a)) ∧ Hid (Below w.heap.size w wr)) (fun i _ => K.length - (intOf i).toNat)
  case atStart => exact ⟨0, m, Nat.zero_le _, rfl, Hn, Lib.hid (fun i => by have := Hb.out i; omega), Lib.hid rfl, Lib.hid (by rw [← HM.out]; exact H6.out), K6⟩
  case round =>
    obtain ⟨k, a, hk, rfl, hal, hab, hae, hO, hbr⟩ := hrel
    have hzr := hbr.out.size
    by_cases hlt : k < K.length
    · obtain ⟨b1, o1, rfl, hS1, l1, c0, c1, c2, -⟩ := (H5.out.below hbr.out fun _ h _ => h.2).lnk hlt
      obtain ⟨f1, f2⟩ := Hr.out _ (List.getElem_mem hlt)
      have hst := Lib.hid (foldD_succ (m := m) hlt)
      rw [← hae.out] at hst
      obtain ⟨x, hx⟩ : ∃ x, x = K[k] := ⟨_, rfl⟩
      rw [← hx] at c0 c1 c2 hst f1 f2
      obtain ⟨_, _, ee, -, -, -, -, m5⟩ := HMs.out.at hbr.out
      simp only [Value.slice.injEq] at ee
      obtain ⟨rfl, -, rfl⟩ := ee
      obtain ⟨b2, o2, rfl, -, l2, d0, -⟩ := m5.int (k := x.to) (by rw [Hml.out, Hn.out]; exact f2)
      have hdv : M[x.to]'(by rw [Hml.out, Hn.out]; exact f2) = (lv m x.to : Int) := by simp only [HM.out]; exact natsI_lv (by rw [Hn.out]; exact f2)
      rw [hdv] at d0
      obtain ⟨g, cap, eo, g1, g2, g3, g4⟩ := hO.out.getI (k := x.fr) (by rw [natsI_len, hal.out]; exact f1)
      have e0 := g3 x.fr (by rw [natsI_len, hal.out]; exact f1)
      rw [natsI_lv (by rw [hal.out]; exact f1)] at e0
      have e1 := g4 x.fr
      simp only [Value.slice.injEq] at eo
      obtain ⟨rfl, hlen, rfl⟩ := eo
      have Hlen := Lib.hid hlen
      clear hlen
      have hvb := Hb.out x.to
      have hvb2 := hab.out x.fr
      have hab' := Lib.hid (bump_bound (s := m) (a := a) (k := x) (by rw [hal.out]; exact f1) hab.out Hb.out)
      have hkl' : (k : Int) < (K.length : Int) := by omega
      have hk0 : (0 : Int) ≤ (k : Int) := by omega
      have hf1 : (x.fr : Int) < (m.length : Int) := by rw [Hn.out]; omega
      have hf2 : (x.to : Int) < (m.length : Int) := by rw [Hn.out]; omega
      have hf3 : (0 : Int) ≤ (x.fr : Int) := by omega
      have hf4 : (0 : Int) ≤ (x.to : Int) := by omega
      have hfA : x.fr < a.length := by rw [hal.out]; exact f1
      have hbn := Lib.hid (fun h => bump_no (s := m) (a := a) (k := x) hfA h)
      have hby := Lib.hid (fun h => bump_yes (s := m) (a := a) (k := x) h)
      have hOs := Lib.hid (fun y hy => hO.out.setI Hlen.out (k := x.fr) (by rw [natsI_len]; exact hfA) (y := y) hy)
      have hal' := Lib.hid (show (bump m a x).length = n by rw [bump_len]; exact hal.out)
      obtain ⟨q, hq⟩ : ∃ q, q = lv m x.to := ⟨_, rfl⟩
      obtain ⟨r, hr⟩ : ∃ q, q = lv a x.fr := ⟨_, rfl⟩
      have hxw : x.w = if x.neg = true then 1 else 0 := rfl
      rw [← hq] at d0 hvb hby hbn
      rw [← hr] at e0 hvb2 hby hbn
      clear hx m5 hdv hq hr g3 g4
      cases hng : x.neg with
      | false =>
        rw [hng] at c2 hxw
        have hw0 : x.w = 0 := by simpa using hxw
        rw [hw0, Nat.add_zero] at hby hbn
        clear hxw hng hw0
        by_cases hq : r < q
        · have hb' := Lib.hid (hby.out hq)
          have hqI : (r : Int) < (q : Int) := by omega
          have hqo : IntOK (q : Int) := ⟨by omega, by omega⟩
          have hO' := Lib.hid (hOs.out _ hqo)
          clear hby hbn hOs
          go_wp2_with fail
          go_roundw
          case rel => exact ⟨k + 1, bump m a x, hlt, by go_num, hal', hab', Lib.hid hst.out.symm, Lib.hid (by rw [hb'.out, ← natsI_set]; exact hO'.out), Lib.hid (hbr.out.setCell g1 _)⟩
          case measure => simp [intOf]; omega
        · have hb' := Lib.hid (hbn.out hq)
          have hqI : ¬ (r : Int) < (q : Int) := by omega
          clear hby hbn hOs
          go_wp2_with fail
          go_roundw
          case rel => exact ⟨k + 1, bump m a x, hlt, by go_num, hal', hab', Lib.hid hst.out.symm, Lib.hid (by rw [hb'.out]; exact hO.out), hbr⟩
          case measure => simp [intOf]; omega
      | true =>
        rw [hng] at c2 hxw
        have hw0 : x.w = 1 := by simpa using hxw
        rw [hw0] at hby hbn
        clear hxw hng hw0
        by_cases hq : r < q + 1
        · have hb' := Lib.hid (hby.out hq)
          have hqI : (r : Int) < (q : Int) + 1 := by omega
          have hqo : IntOK ((q + 1 : Nat) : Int) := ⟨by omega, by omega⟩
          have hO' := Lib.hid (hOs.out _ hqo)
          clear hby hbn hOs
          go_wp2_with fail
          go_roundw
          case rel => exact ⟨k + 1, bump m a x, hlt, by go_num, hal', hab', Lib.hid hst.out.symm, Lib.hid (by rw [hb'.out, ← natsI_set]; exact hO'.out), Lib.hid (hbr.out.setCell g1 _)⟩
          case measure => simp [intOf]; omega
        · have hb' := Lib.hid (hbn.out hq)
          have hqI : ¬ (r : Int) < (q : Int) + 1 := by omega
          clear hby hbn hOs
          go_wp2_with fail
          go_roundw
          case rel => exact ⟨k + 1, bump m a x, hlt, by go_num, hal', hab', Lib.hid hst.out.symm, Lib.hid (by rw [hb'.out]; exact hO.out), hbr⟩
          case measure => simp [intOf]; omega
    · obtain rfl : k = K.length := by omega
      have hfin := Lib.hid (show a = raiseD K m by rw [hae.out, List.take_length]; rfl)
      have ho2 := Lib.hid (show Own intE (fun _ => False) w.heap.size 3 wr _ (natsI a) from by obtain ⟨vs, g1, g2⟩ := hO.out; exact ⟨vs, g1, fun k x hx => g2 k x hx⟩)
      have hll : (natsI a).length ≤ 140737488355328 := by rw [natsI_len, hal.out]; have := Hn.out; omega
      clear hlt
      go_wp2_with fail
      go_ret
      exact ⟨_, rfl, hbr.out, by rw [← hfin.out]; exact ho2.out.seq hll fun b _ h => h.elim False.elim id⟩
end Go.Proofs.Ytadbdmnngmlnhaa
