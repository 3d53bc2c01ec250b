/-
  Layer 14, the program: term.Number, space.Find, has.
  Layer 14, the program: with (a table or an answer behind a row, a table in its place).
  Layer 14, the program: Open, Answer, Total.
-/
import Derived.Test.YtckkjjiaecnciaaGreatSpE
import Derived.Test.YtckkjjiaecnciaaGreatTmU
import Derived.Test.YtckkjjiaecnciaaGreatMtA
import Derived.Test.YtckkjjiaecnciaaGreatMtJ
namespace Go.Proofs.YtckkjjiaecnciaaGreat
section
open Go Go.RowKit

theorem idxI_place (l : List Int) (n : Int) : idxI l n = placeN l n := by unfold idxI placeN idxZ; cases l.findIdx? (fun x => decide (x = n)) <;> rfl
theorem any_idx {α : Type} (p : α → Bool) (l : List α) : l.any p = decide (0 ≤ idxZ p l) := by
  rcases idxZ_cases p l with ⟨h, hn⟩ | ⟨k, hk, h, h1, -⟩
  · rw [h, List.any_eq_false.2 fun x hx => by
      obtain ⟨j, hj, rfl⟩ := List.mem_iff_getElem.1 hx
      rw [hn j hj]; simp]
    decide
  · rw [h, List.any_eq_true.2 ⟨_, List.getElem_mem hk, h1⟩]
    simp
set_option maxRecDepth 100000 in
theorem number1_spec {S : Nat → Prop} {w : World} {B lc : Nat} {la : Option Addr} {l : List Int} {n : Int} (hc : w.cell? ⟨B, 0, none⟩ = some (.slice la l.length lc)) (hl : Seq intE S w (.slice la l.length lc) l) :
    Calls Tryz.prog 60 #[.int .i64 n, .pointer (some ⟨B, 0, none⟩)] w (PureV (.int .i64 (placeN l n)) w) := by
  have HL := Lib.hid hl
  have hlB := World.block_lt_of_cell? _ _ hc
  clear hl
  go_enter Tryz.func60, Tryz.ntmps60
  go_wp2_with fail
  refine (IndexI_spec HL.out).mono ?_
  rintro e _ ⟨rfl, rfl⟩
  rw [idxI_place]
  go_wp2_with fail
  go_ret
  exact ⟨rfl, rfl⟩

set_option maxHeartbeats 3200000 in
set_option maxRecDepth 100000 in
theorem turnN_spec {S T : Nat → Prop} {w : World} {v : Value} {t : List Cell} {B lc : Nat} {la : Option Addr} {l : List Int} (ht : Seq cellE S w v t) (hpos : 0 < t.length) (hlen : t.length ≤ 1000000) (hc : w.cell? ⟨B, 0, none⟩ = some (.slice la l.length lc)) (hl : Seq intE T w (.slice la l.length lc) l) :
    Calls Tryz.prog 59 #[v, .func (.func 60) #[] #[.pointer (some ⟨B, 0, none⟩)]] w (Ret (fun r w' => Seq cellE (fun b => w.heap.size ≤ b) w' r (t.map (numC l))) w) := by
  have HT := Lib.hid ht
  obtain ⟨ta, tc, rfl⟩ := ht.shape
  have HV := Lib.hid hl
  have hll : l.length ≤ 140737488355328 := by obtain ⟨_, _, _, _, _, h, _⟩ := hl; exact h
  have hlB := World.block_lt_of_cell? _ _ hc
  have Hc := Lib.hid (fun (W : World) (h : Below w.heap.size w W) => (h.cell (p := ⟨B, 0, none⟩) hlB).trans hc)
  clear hl ht hc
  go_enter Tryz.func59, Tryz.ntmps59
  go_wp2_with fail
  refine (cloneC_spec HT.out (by omega)).mono ?_
  rintro e w1 ⟨o, rfl, hb1, hown⟩
  have Hb1 := Lib.hid hb1
  obtain ⟨g, cap2, hg⟩ : ∃ g cap, o = .slice (some ⟨g, 0, none⟩) t.length cap := by
    obtain ⟨vs, hv, -⟩ := hown
    obtain ⟨g, cap, hv', -⟩ := own_cell hv (i := 0) (by show 0 < t.length * 3; omega)
    exact ⟨g, cap, hv'⟩
  subst hg
  have hown2 : Own cellE (fun _ => True) w.heap.size 51 w1 (.slice (some ⟨g, 0, none⟩) t.length cap2) (mapTo (numC l) t 0) := by simpa [mapTo] using own_cellS hown
  have Hown2 := Lib.hid hown2
  have hgb : w.heap.size ≤ g := (Hown2.out.blk (b := g) rfl).1
  clear hown hown2 hb1
  go_wp2_with fail
  go_loopw [12] (fun i wr => ∃ k : Nat, k ≤ t.length ∧ i = .int .i64 k ∧ Hid (Own cellE (fun _ => True) w.heap.size 51 wr (.slice (some ⟨g, 0, none⟩) t.length cap2) (mapTo (numC l) t k)) ∧ Hid (Below w.heap.size w wr)) (fun i _ => t.length - (intOf i).toNat)
  case atStart => exact ⟨0, Nat.zero_le _, rfl, Hown2, Hb1⟩
  case round =>
    obtain ⟨k, hk, rfl, Hown, Hbr⟩ := hrel
    have hzr := Hbr.out.size
    by_cases hlt : k < t.length
    · have hvl := mapTo_len (numC l) t k
      obtain ⟨_, _, e2, -, -, -, -, hs5⟩ := Hown.out.seq (T := fun _ => True) (by omega) fun _ _ _ => trivial
      simp only [Value.slice.injEq] at e2
      obtain ⟨rfl, -, rfl⟩ := e2
      obtain ⟨b, off, e3, -, hb, c0, c1, c2, ok0, ok2, ok3⟩ := hs5.cell (show k < (mapTo (numC l) t k).length by omega)
      simp only [Option.some.injEq, Addr.mk.injEq, and_true] at e3
      obtain ⟨rfl, rfl⟩ := e3
      have hoe : (mapTo (numC l) t k)[k]'(by omega) = t[k] := by
        have := mapTo_at (f := numC l) hlt
        rw [List.getElem?_eq_getElem (by omega)] at this
        simpa using this
      rw [hoe] at c0 c1 c2 ok0 ok2 ok3
      simp only [Nat.zero_add] at c0 c1 c2
      have hfz : wr.frozen? ⟨g, k * 3 + 2, none⟩ = false := by
        obtain ⟨vs, hv, -⟩ := Hown.out
        obtain ⟨g', cap', hv', -, -, -, hfz⟩ := own_cell hv (i := 0) (by show 0 < (mapTo (numC l) t k).length * 3; omega)
        simp only [Value.slice.injEq, Option.some.injEq, Addr.mk.injEq, and_true] at hv'
        obtain ⟨rfl, -⟩ := hv'
        exact hfz _
      have hst := Lib.hid (mapTo_step (f := numC l) hlt)
      have hsm := Lib.hid (mapTo_same (f := numC l) hlt)
      have Hvl := Lib.hid hvl
      have hCk := Lib.hid (mapTo_at (f := numC l) hlt)
      obtain ⟨c, hc⟩ : ∃ c, c = t[k] := ⟨_, rfl⟩
      rw [← hc] at c0 c1 c2 ok0 ok2 ok3 hst hsm hCk
      clear hc hs5 hoe hvl
      have hkl : (k : Int) < (t.length : Int) := by omega
      have hk0 : (0 : Int) ≤ (k : Int) := by omega
      obtain ⟨wz, rfl⟩ : ∃ wz, wz = wr := ⟨_, rfl⟩
      by_cases h1 : c.kind = 1
      · have hs := Lib.hid (show mapTo (numC l) t (k + 1) = (mapTo (numC l) t k).set k { c with n := placeN l c.n } by rw [hst.out]; unfold numC; rw [if_pos h1])
        have h1' : (c.kind == 1) = true := by simpa using h1
        have hpr := placeN_rng l c.n
        have HVr := Lib.hid (fun (W : World) (h : Below wz.heap.size wz W) => (HV.out.at Hbr.out).at h)
        have HcB := Lib.hid (fun (W : World) (h : Below wz.heap.size wz W) => Hc.out W (below_step h Hbr.out))
        have HFin := Lib.hid (fun (W : World) (h : Below wz.heap.size wz W) => (show Own cellE (fun _ => True) w.heap.size 51 (W.setCell ⟨g, k * 3 + 2, none⟩ (.int .i64 (placeN l c.n))) (.slice (some ⟨g, 0, none⟩) t.length cap2) (mapTo (numC l) t (k + 1)) by
          have H3 := Own.setN (S := fun _ => True) (base := w.heap.size) (e := 51) (w := W) (g := g) (cap := cap2) (xs := mapTo (numC l) t k) (by rw [Hvl.out]; exact Hown.out.move h) (k := k) (by rw [Hvl.out]; exact hlt) (c := c) hCk.out (n := placeN l c.n) ⟨by omega, by omega⟩
          rw [Hvl.out] at H3
          rw [hs.out]
          exact H3))
        clear hst hsm hs h1
        go_wp2_with fail
        refine (number1_spec (HcB.out _ Seq.way) (HVr.out _ Seq.way)).mono ?_
        rintro e _ ⟨rfl, rfl⟩
        have HBF := Lib.hid (Hbr.out.setCell (p := ⟨g, k * 3 + 2, none⟩) hgb (.int .i64 (placeN l c.n)))
        go_wp2_with fail
        go_roundw
        case rel => exact ⟨k + 1, hlt, by go_num, Lib.hid ((HFin.out wz (Below.refl _ _)).move Seq.way), Lib.hid (below_step Seq.way HBF.out)⟩
        case measure => simp [intOf]; omega
      · have hs := Lib.hid (hsm.out (by unfold numC; rw [if_neg h1]))
        have h1' : (c.kind == 1) = false := by simpa using h1
        clear hst hsm
        go_wp2_with fail
        go_roundw
        case rel => exact ⟨k + 1, hlt, by go_num, Lib.hid (by rw [hs.out]; exact Hown.out.move Seq.way), Lib.hid (below_step Seq.way Hbr.out)⟩
        case measure => simp [intOf]; omega
    · obtain rfl : k = t.length := by omega
      have hkl : ¬ (t.length : Int) < (t.length : Int) := by omega
      have hfin := Lib.hid (show Seq cellE (fun b => w.heap.size ≤ b) wr (.slice (some ⟨g, 0, none⟩) t.length cap2) (t.map (numC l)) by
        have h := Hown.out
        rw [mapTo_all] at h
        have h2 := (own_cellS (T := fun _ => False) h).seq (T := fun b => w.heap.size ≤ b) (by rw [List.length_map]; omega) fun b _ h => h.elim False.elim id
        exact h2)
      go_wp2_with fail
      go_ret
      exact ⟨_, rfl, Hbr.out, hfin.out⟩

set_option maxHeartbeats 1600000 in
set_option maxRecDepth 100000 in
theorem NumberP_spec {S : Nat → Prop} {w : World} {v : Value} {t : List Cell} (ht : Seq cellE S w v t) (hpos : 0 < t.length) (hlen : t.length ≤ 1000000) :
    Calls Tryz.prog 37 #[v] w (Ret (fun r w' => Seq cellE (fun b => w.heap.size ≤ b) w' r (numT t)) w) := by
  have HT := Lib.hid ht
  obtain ⟨ta, tc, rfl⟩ := ht.shape
  have hnT := Lib.hid (show numT t = t.map (numC (varsL t)) from rfl)
  clear ht
  go_enter Tryz.func37, Tryz.ntmps37
  go_wp2_with fail
  refine (VarsP_spec HT.out (by omega)).mono ?_
  rintro e w1 ⟨v1, rfl, hb1, hs1⟩
  obtain ⟨va, vc, rfl⟩ := hs1.shape
  have HV := Lib.hid hs1
  have Hb1 := Lib.hid hb1
  have HT1 := Lib.hid (HT.out.at hb1)
  have hvl := varsL_len t
  obtain ⟨l, hl⟩ : ∃ l, l = varsL t := ⟨_, rfl⟩
  rw [← hl] at HV hvl hnT ⊢
  obtain ⟨W, hW⟩ : ∃ W, W = w1.alloc (.cells #[.slice va l.length vc] 33) := ⟨_, rfl⟩
  have HBW := Lib.hid (show Below w1.heap.size w1 W by rw [hW]; exact Seq.way)
  have hR := Row.new w1 [.slice va l.length vc] 33 rfl
  have HC := Lib.hid (show W.cell? ⟨w1.heap.size, 0, none⟩ = some (.slice va l.length vc) by rw [hW]; exact hR.cell (j := 0) (by simp))
  have HW := Lib.hid hW
  have hz := hb1.size
  have hzW := HBW.out.size
  clear hl hs1 hb1 hW hR
  go_upto_region 2 with fail
  rw [← HW.out]
  go_wp2_with fail
  refine (turnN_spec ((HT1.out.at HBW.out).at Seq.way) hpos hlen HC.out (HV.out.at HBW.out)).mono ?_
  rintro e w2 ⟨v2, rfl, hb2, hs2⟩
  obtain ⟨o1, o2, rfl⟩ := hs2.shape
  have Hs2 := Lib.hid hs2
  have Hb2 := Lib.hid (below_step (below_step hb2 HBW.out) Hb1.out)
  clear hs2 hb2
  go_wp2_with fail
  go_ret
  exact ⟨_, rfl, Hb2.out, by rw [hnT.out]; exact (by simpa using Hs2.out.mono (fun b (h : W.heap.size ≤ b) _ => (by omega : w.heap.size ≤ b)) fun _ _ _ => rfl)⟩

set_option maxRecDepth 100000 in
theorem find1_spec {S T : Nat → Prop} {w : World} {v : Value} {x : Tab} {t : List Cell} {bt : Nat} {pa : Option Addr} {pc : Nat} (ct : w.cell? ⟨bt, 0, none⟩ = some (.slice pa t.length pc)) (ht : Seq cellE S w (.slice pa t.length pc) t) (hx : TabV T w v x) :
    Calls Tryz.prog 47 #[v, .pointer (some ⟨bt, 0, none⟩)] w (RetV (.bool (decide (x.call = t))) w) := by
  have lt := World.block_lt_of_cell? _ _ ct
  obtain ⟨xa, xc, ya, yc, rfl, hX, -⟩ := hx
  obtain ⟨W, hW⟩ : ∃ W, W = w.alloc (.cells #[.slice xa x.call.length xc, .slice ya x.ans.length yc] 43) := ⟨_, rfl⟩
  have HBW := Lib.hid (show Below w.heap.size w W by rw [hW]; exact Seq.way)
  have HW := Lib.hid hW
  have HR := Lib.hid (show Row 43 W w.heap.size [.slice xa x.call.length xc, .slice ya x.ans.length yc] by rw [hW]; exact Row.new w [_, _] _ rfl)
  obtain ⟨bq, hbq⟩ : ∃ b, b = w.heap.size := ⟨_, rfl⟩
  have Hbq := Lib.hid hbq
  rw [← hbq] at HR
  have c0 := HR.out.cell (j := 0) (by simp)
  simp only [List.getElem_cons_zero] at c0
  have cl := HR.out.lt
  have ct2 : W.cell? ⟨bt, 0, none⟩ = _ := (HBW.out.cell (p := ⟨bt, 0, none⟩) lt).trans ct
  have ctl : bt < W.heap.size := Nat.lt_of_lt_of_le lt HBW.out.size
  have HX := Lib.hid (hX.at HBW.out)
  have HT := Lib.hid (ht.at HBW.out)
  clear hW hX ht hbq lt ct
  go_enter Tryz.func47, Tryz.ntmps47
  go_upto_region 1 with fail
  rw [← HW.out, ← Hbq.out]
  go_wp2_with fail
  refine (SameP_spec (HX.out.at Seq.way) (HT.out.at Seq.way)).mono ?_
  rintro e w1 ⟨rfl, hq⟩
  have HQ := Lib.hid (below_step (below_step hq.belowS Seq.way) HBW.out)
  clear hq
  go_wp2_with fail
  go_ret
  exact ⟨rfl, HQ.out⟩

set_option maxHeartbeats 3200000 in
set_option maxRecDepth 100000 in
theorem fnd_idx {S : Nat → Prop} {w : World} {v : Value} {l : List (Tab)} {bt : Nat} {p : Tab → Bool} (hl : Seq (tabE) S w v l)
    (hc : ∀ (W' : World) (U : Nat → Prop) (u : Value), Below w.heap.size w W' → ∀ x ∈ l, TabV U W' u x → Calls Tryz.prog 47 #[u, .pointer (some ⟨bt, 0, none⟩)] W' (RetV (.bool (p x)) W')) :
    Calls Tryz.prog 46 #[v, .func (.func 47) #[] #[.pointer (some ⟨bt, 0, none⟩)]] w (RetV (.int .i64 (idxZ p l)) w) := by
  have HL := Lib.hid hl
  have hll : l.length ≤ 140737488355328 := by obtain ⟨_, _, _, _, _, h, _⟩ := hl; exact h
  obtain ⟨aa, ac, rfl⟩ := hl.shape
  have Hc := Lib.hid hc
  clear hl hc
  go_enter Tryz.func46, Tryz.ntmps46
  go_wp2_with fail
  go_loopw [8] (fun i wr => ∃ k : Nat, k ≤ l.length ∧ i = .int .i64 k ∧ Hid (∀ j (h : j < l.length), j < k → p l[j] = false) ∧ Hid (Below w.heap.size w wr)) (fun i _ => l.length - (intOf i).toNat)
  case atStart => exact ⟨0, Nat.zero_le _, rfl, Lib.hid (fun i _ h => absurd h (Nat.not_lt_zero _)), Lib.hid Seq.way⟩
  case round =>
    obtain ⟨k, hk, rfl, hno, hbr⟩ := hrel
    by_cases hlt : k < l.length
    · obtain ⟨_, _, ee, -, -, -, -, h5⟩ := HL.out.at hbr.out
      simp only [Value.slice.injEq, true_and] at ee
      obtain ⟨rfl, rfl⟩ := ee
      obtain ⟨b, off, p1, n1, p2, n2, rfl, -, _hb, c0, c1, hX1, hX2⟩ := h5.tab hlt
      have hy := Lib.hid (show p l[k] = true → idxZ p l = (k : Int) from fun h => idxZ_hit hlt h fun j hj hjk => hno.out j hj hjk)
      have hz := Lib.hid (show p l[k] = false → ∀ i (h : i < l.length), i < k + 1 → p l[i] = false from fun h i hi hlt => by
        by_cases e : i = k
        · subst e; exact h
        · exact hno.out i hi (by omega))
      have hcc := Lib.hid (Hc.out _ _ _ hbr.out _ (List.getElem_mem hlt) ⟨_, _, _, _, rfl, hX1, hX2⟩)
      obtain ⟨x, hx⟩ : ∃ x, x = l[k] := ⟨_, rfl⟩
      rw [← hx] at c0 c1 hy hz hcc
      obtain ⟨d, hd⟩ : ∃ d, d = p x := ⟨_, rfl⟩
      rw [← hd] at hy hz hcc
      clear hx h5 hd hX1 hX2
      have hkl : (k : Int) < (l.length : Int) := by omega
      have hk0 : (0 : Int) ≤ (k : Int) := by omega
      go_wp2_with fail
      refine hcc.out.mono ?_
      rintro e w1 ⟨rfl, hb1⟩
      have B1 := Lib.hid (below_step hb1 hbr.out)
      clear hb1
      cases d with
      | true =>
        have hy' := Lib.hid (hy.out rfl)
        clear hy hz
        go_wp2_with fail
        go_ret
        exact ⟨ret_int hy'.out.symm, B1.out⟩
      | false =>
        have hz' := Lib.hid (hz.out rfl)
        clear hy hz
        go_wp2_with fail
        go_roundw
        case rel => exact ⟨k + 1, hlt, by go_num, hz', B1⟩
        case measure => simp [intOf]; omega
    · have hkl : ¬ (k : Int) < (l.length : Int) := by omega
      have hd := Lib.hid (idxZ_miss fun j hj => hno.out j hj (by omega))
      clear hlt hno
      go_wp2_with fail
      go_ret
      exact ⟨ret_int hd.out.symm, hbr.out⟩

set_option maxHeartbeats 1600000 in
set_option maxRecDepth 100000 in
theorem FindP14_spec {S T : Nat → Prop} {w : World} {v u : Value} {s : List Tab} {c : List Cell} (hs : Seq tabE S w v s) (hc : Seq cellE T w u c) (pc : 0 < c.length) (lc : c.length ≤ 1000000) :
    Calls Tryz.prog 18 #[v, u] w (RetV (.int .i64 (findTb s c)) w) := by
  have HS := Lib.hid hs
  have HC := Lib.hid hc
  obtain ⟨aa, ac, rfl⟩ := hs.shape
  obtain ⟨ca, cc, rfl⟩ := hc.shape
  have hF := Lib.hid (show findTb s c = idxZ (fun t => decide (t.call = numT c)) s from rfl)
  clear hs hc
  go_enter Tryz.func18, Tryz.ntmps18
  go_wp2_with fail
  refine (NumberP_spec HC.out pc lc).mono ?_
  rintro e w1 ⟨v1, rfl, hb1, hs1⟩
  obtain ⟨va, vc, rfl⟩ := hs1.shape
  obtain ⟨N, hN⟩ : ∃ N, N = numT c := ⟨_, rfl⟩
  rw [← hN] at hs1 hF ⊢
  have HN := Lib.hid hs1
  have Hb1 := Lib.hid hb1
  have HS1 := Lib.hid (HS.out.at hb1)
  obtain ⟨W, hW⟩ : ∃ W, W = w1.alloc (.cells #[.slice va N.length vc] 23) := ⟨_, rfl⟩
  have HBW := Lib.hid (show Below w1.heap.size w1 W by rw [hW]; exact Seq.way)
  have HR := Lib.hid (show Row 23 W w1.heap.size [.slice va N.length vc] by rw [hW]; exact Row.new w1 [_] 23 rfl)
  have HW := Lib.hid hW
  clear hN hs1 hb1 hW
  go_upto_region 2 with fail
  rw [← HW.out]
  go_wp2_with fail
  refine (fnd_idx (p := fun t => decide (t.call = N)) (HS1.out.at HBW.out) fun W' U u hb x _ hx => find1_spec ((HR.out.below hb HR.out.lt).cell (j := 0) (by simp)) ((HN.out.at HBW.out).at hb) hx).mono ?_
  rintro e w2 ⟨rfl, hb2⟩
  have Hb2 := Lib.hid (below_step (below_step hb2 HBW.out) Hb1.out)
  clear hb2
  rw [← hF.out]
  go_wp2_with fail
  go_ret
  exact ⟨rfl, Hb2.out⟩

set_option maxRecDepth 100000 in
theorem has1_spec {S T : Nat → Prop} {w : World} {v : Value} {x t : List Cell} {bt : Nat} {pa : Option Addr} {pc : Nat} (ct : w.cell? ⟨bt, 0, none⟩ = some (.slice pa t.length pc)) (ht : Seq cellE S w (.slice pa t.length pc) t) (hx : Seq cellE T w v x) :
    Calls Tryz.prog 63 #[v, .pointer (some ⟨bt, 0, none⟩)] w (RetV (.bool (decide (x = t))) w) := by
  have lt := World.block_lt_of_cell? _ _ ct
  have HX := Lib.hid hx
  have HT := Lib.hid ht
  obtain ⟨xa, xc, rfl⟩ := hx.shape
  clear ht hx
  go_enter Tryz.func63, Tryz.ntmps63
  go_wp2_with fail
  refine (SameP_spec (HX.out.at Seq.way) (HT.out.at Seq.way)).mono ?_
  rintro e w1 ⟨rfl, hq⟩
  have HQ := Lib.hid (below_step hq.belowS (Seq.way : Below w.heap.size w _))
  clear hq
  go_wp2_with fail
  go_ret
  exact ⟨rfl, HQ.out⟩

set_option maxHeartbeats 3200000 in
set_option maxRecDepth 100000 in
theorem hsx_idx {S : Nat → Prop} {w : World} {v : Value} {l : List (List Cell)} {bt : Nat} {p : List Cell → Bool} (hl : Seq (seqE cellE) S w v l)
    (hc : ∀ (W' : World) (U : Nat → Prop) (u : Value), Below w.heap.size w W' → ∀ x ∈ l, Seq cellE U W' u x → Calls Tryz.prog 63 #[u, .pointer (some ⟨bt, 0, none⟩)] W' (RetV (.bool (p x)) W')) :
    Calls Tryz.prog 91 #[v, .func (.func 63) #[] #[.pointer (some ⟨bt, 0, none⟩)]] w (RetV (.int .i64 (idxZ p l)) w) := by
  have HL := Lib.hid hl
  have hll : l.length ≤ 140737488355328 := by obtain ⟨_, _, _, _, _, h, _⟩ := hl; exact h
  obtain ⟨aa, ac, rfl⟩ := hl.shape
  have Hc := Lib.hid hc
  clear hl hc
  go_enter Tryz.func91, Tryz.ntmps91
  go_wp2_with fail
  go_loopw [8] (fun i wr => ∃ k : Nat, k ≤ l.length ∧ i = .int .i64 k ∧ Hid (∀ j (h : j < l.length), j < k → p l[j] = false) ∧ Hid (Below w.heap.size w wr)) (fun i _ => l.length - (intOf i).toNat)
  case atStart => exact ⟨0, Nat.zero_le _, rfl, Lib.hid (fun i _ h => absurd h (Nat.not_lt_zero _)), Lib.hid Seq.way⟩
  case round =>
    obtain ⟨k, hk, rfl, hno, hbr⟩ := hrel
    by_cases hlt : k < l.length
    · obtain ⟨_, _, ee, -, -, -, -, h5⟩ := HL.out.at hbr.out
      simp only [Value.slice.injEq, true_and] at ee
      obtain ⟨rfl, rfl⟩ := ee
      obtain ⟨b, off, p1, n1, rfl, -, _hb, c0, hX⟩ := h5.seq hlt
      have hy := Lib.hid (show p l[k] = true → idxZ p l = (k : Int) from fun h => idxZ_hit hlt h fun j hj hjk => hno.out j hj hjk)
      have hz := Lib.hid (show p l[k] = false → ∀ i (h : i < l.length), i < k + 1 → p l[i] = false from fun h i hi hlt => by
        by_cases e : i = k
        · subst e; exact h
        · exact hno.out i hi (by omega))
      have hcc := Lib.hid (Hc.out _ _ _ hbr.out _ (List.getElem_mem hlt) hX)
      obtain ⟨x, hx⟩ : ∃ x, x = l[k] := ⟨_, rfl⟩
      rw [← hx] at c0 hy hz hcc
      obtain ⟨d, hd⟩ : ∃ d, d = p x := ⟨_, rfl⟩
      rw [← hd] at hy hz hcc
      clear hx h5 hd hX
      have hkl : (k : Int) < (l.length : Int) := by omega
      have hk0 : (0 : Int) ≤ (k : Int) := by omega
      go_wp2_with fail
      refine hcc.out.mono ?_
      rintro e w1 ⟨rfl, hb1⟩
      have B1 := Lib.hid (below_step hb1 hbr.out)
      clear hb1
      cases d with
      | true =>
        have hy' := Lib.hid (hy.out rfl)
        clear hy hz
        go_wp2_with fail
        go_ret
        exact ⟨ret_int hy'.out.symm, B1.out⟩
      | false =>
        have hz' := Lib.hid (hz.out rfl)
        clear hy hz
        go_wp2_with fail
        go_roundw
        case rel => exact ⟨k + 1, hlt, by go_num, hz', B1⟩
        case measure => simp [intOf]; omega
    · have hkl : ¬ (k : Int) < (l.length : Int) := by omega
      have hd := Lib.hid (idxZ_miss fun j hj => hno.out j hj (by omega))
      clear hlt hno
      go_wp2_with fail
      go_ret
      exact ⟨ret_int hd.out.symm, hbr.out⟩

set_option maxRecDepth 100000 in
theorem hsx_has {S : Nat → Prop} {w : World} {v : Value} {l : List (List Cell)} {bt : Nat} {p : List Cell → Bool} (hl : Seq (seqE cellE) S w v l)
    (hc : ∀ (W' : World) (U : Nat → Prop) (u : Value), Below w.heap.size w W' → ∀ x ∈ l, Seq cellE U W' u x → Calls Tryz.prog 63 #[u, .pointer (some ⟨bt, 0, none⟩)] W' (RetV (.bool (p x)) W')) :
    Calls Tryz.prog 62 #[v, .func (.func 63) #[] #[.pointer (some ⟨bt, 0, none⟩)]] w (RetV (.bool (l.any p)) w) := by
  have HL := Lib.hid hl
  obtain ⟨aa, ac, rfl⟩ := hl.shape
  have Hc := Lib.hid hc
  clear hl hc
  have hr := Lib.hid (any_idx p l)
  go_enter Tryz.func62, Tryz.ntmps62
  go_wp2_with fail
  refine (hsx_idx HL.out Hc.out).mono ?_
  rintro e w' ⟨rfl, hb⟩
  have HB := Lib.hid hb
  clear hb
  obtain ⟨z, hz⟩ : ∃ z, z = idxZ p l := ⟨_, rfl⟩
  rw [← hz] at hr ⊢
  clear hz
  go_wp2_with fail
  go_ret
  exact ⟨ret_bool (by rw [hr.out]; try rfl), HB.out⟩

set_option maxHeartbeats 1600000 in
set_option maxRecDepth 100000 in
theorem hasP_spec {S T : Nat → Prop} {w : World} {v u : Value} {l : List (List Cell)} {t : List Cell} (hl : Seq (seqE cellE) S w v l) (ht : Seq cellE T w u t) :
    Calls Tryz.prog 38 #[v, u] w (RetV (.bool (hasT l t)) w) := by
  have HL := Lib.hid hl
  have HT := Lib.hid ht
  obtain ⟨aa, ac, rfl⟩ := hl.shape
  obtain ⟨ta, tc, rfl⟩ := ht.shape
  have hF := Lib.hid (show l.any (fun x => decide (x = t)) = hasT l t by unfold hasT; rw [Bool.eq_iff_iff, List.any_eq_true, decide_eq_true_eq]; exact ⟨fun ⟨x, hx, e⟩ => by rw [← of_decide_eq_true e]; exact hx, fun h => ⟨t, h, decide_eq_true rfl⟩⟩)
  obtain ⟨W, hW⟩ : ∃ W, W = w.alloc (.cells #[.slice ta t.length tc] 23) := ⟨_, rfl⟩
  have HBW := Lib.hid (show Below w.heap.size w W by rw [hW]; exact Seq.way)
  have HR := Lib.hid (show Row 23 W w.heap.size [.slice ta t.length tc] by rw [hW]; exact Row.new w [_] 23 rfl)
  have HW := Lib.hid hW
  clear hl ht hW
  go_enter Tryz.func38, Tryz.ntmps38
  go_upto_region 1 with fail
  rw [← HW.out]
  go_wp2_with fail
  refine (hsx_has (p := fun x => decide (x = t)) (HL.out.at HBW.out) fun W' U u hb x _ hx => has1_spec ((HR.out.below hb HR.out.lt).cell (j := 0) (by simp)) ((HT.out.at HBW.out).at hb) hx).mono ?_
  rintro e w2 ⟨rfl, hb2⟩
  have Hb2 := Lib.hid (below_step hb2 HBW.out)
  clear hb2
  rw [hF.out]
  go_wp2_with fail
  go_ret
  exact ⟨rfl, Hb2.out⟩
end
section
open Go Go.RowKit

theorem Own.wide {α : Type} {E : Elt α} {S T : Nat → Prop} {base : Nat} {e : TypeId} {w : World} {v : Value} {xs : List α} (h : Own E S base e w v xs) (hST : ∀ b, S b → b < w.heap.size → T b) : Own E T base e w v xs := by
  obtain ⟨vs, h1, h2⟩ := h
  refine ⟨vs, h1, fun k x hx => ?_⟩
  obtain ⟨cs, h3, h4⟩ := h2 k x hx
  exact ⟨cs, E.mono h3 (fun b hb hl => ⟨hST b hb.1 hl, hb.2⟩) fun _ _ _ => rfl, h4⟩

set_option maxHeartbeats 1600000 in
set_option maxRecDepth 100000 in
theorem cloneTab_spec {S : Nat → Prop} {w : World} {v : Value} {l : List Tab} (hl : Seq tabE S w v l) (hlen : l.length ≤ 1000000000) :
    Calls Tryz.prog 57 #[v] w (Ret (fun o w' => Own tabE (fun b => S b ∧ b < w.heap.size) w.heap.size 43 w' o l) w) := by
  have hb := Lib.hid hl.bnd
  obtain ⟨ao, cap, rfl, h1, h2, h3, h4, h5⟩ := hl
  cases ao with
  | none =>
    obtain rfl := h4 rfl
    have hl0 : l.length = 0 := by omega
    have hn := Lib.hid (List.eq_nil_of_length_eq_zero hl0)
    have hnil := fun (w : World) (a : Option Addr) (n c n' c' : Nat) => Lib.run_eql_slice_nil (P := Tryz.prog) w 22 43 a n c n' c' Tryz.underlying22
    clear h5 h4
    go_enter Tryz.func57, Tryz.ntmps57
    go_wp2_with fail
    go_ret
    exact ⟨_, rfl, Below.refl _ _, by rw [hn.out]; exact Own.nil _ _ _ _ _⟩
  | some ad =>
    clear h5 h4
    have hown : Own tabE (fun b => S b ∧ b < w.heap.size) w.heap.size 43 (w.alloc (.cells #[] 43)) (.slice (some ⟨w.heap.size, 0, none⟩) 0 0) ([] : List Tab) := Own.lit0 rfl (Nat.le_refl _) rfl
    have hba := Lib.hid (hb.out.at (Seq.way (w' := w.alloc (.cells #[] 43))))
    have hnil := fun (w : World) (a : Option Addr) (n c n' c' : Nat) => Lib.run_eql_slice_nil (P := Tryz.prog) w 22 43 a n c n' c' Tryz.underlying22
    go_enter Tryz.func57, Tryz.ntmps57
    go_wp2_with (at_builtin; refine wpList_appL (wm := w.alloc (.cells #[] 43)) (zs := l) rfl _ _ 22 rfl Tryz.underlying22 infoTab rfl rfl hown (Below.refl _ _) rfl hba.out (fun b h _ => ⟨h, .inl h.2⟩) rfl (by omega) (by omega) (by simp) ?_)
    intro ao' cap' w' hown' hkept
    have hb' := (Seq.way (w := w) (w' := w.alloc (.cells #[] 43)) (B := w.heap.size)).trans hkept.below
    have Hown := Lib.hid hown'
    clear hown hown' hkept hba
    go_wp2_with fail
    go_ret
    exact ⟨_, rfl, hb', Hown.out⟩

set_option maxHeartbeats 3200000 in
set_option maxRecDepth 100000 in
theorem withApp_spec {S T : Nat → Prop} {w : World} {v u : Value} {s : List Tab} {y : Tab} (hs : Seq tabE S w v s) (hy : TabV T w u y) (hl : s.length ≤ 1000) :
    Calls Tryz.prog 36 #[v, .int .i64 s.length, u] w (Ret (fun r w' => Seq tabE (Fr (fun b => S b ∨ T b) w) w' r (s ++ [y])) w) := by
  have HS := Lib.hid hs.bnd
  obtain ⟨aa, ac, rfl⟩ := hs.shape
  obtain ⟨ha, hc, la, lc, rfl, hY, hA⟩ := hy
  obtain ⟨W, hW⟩ : ∃ W, W = w.alloc (.cells #[.slice ha y.call.length hc, .slice la y.ans.length lc] 43) := ⟨_, rfl⟩
  have HBW := Lib.hid (show Below w.heap.size w W by rw [hW]; exact Seq.way)
  have HR := Lib.hid (show Row 43 W w.heap.size [.slice ha y.call.length hc, .slice la y.ans.length lc] by rw [hW]; exact Row.new w [_, _] 43 rfl)
  have HY := Lib.hid (hY.bnd.at HBW.out)
  have HA := Lib.hid (hA.bnd.at HBW.out)
  have hzW := HBW.out.size
  have HW := Lib.hid hW
  clear hs hY hA hW
  go_enter Tryz.func36, Tryz.ntmps36
  go_upto_region 1 with fail
  rw [← HW.out]
  go_wp2_with fail
  refine (cloneTab_spec (HS.out.at HBW.out) (by omega)).mono ?_
  rintro e w1 ⟨o, rfl, hb1, hown⟩
  obtain ⟨oa, oc, rfl, -⟩ := hown.shape
  have HO := Lib.hid (hown.wide (T := fun b => (S b ∨ T b) ∧ b < w.heap.size) fun b hb _ => ⟨.inl hb.1.1, hb.1.2⟩)
  have Hb1 := Lib.hid (below_step hb1 HBW.out)
  have HR1 := Lib.hid (HR.out.below hb1 HR.out.lt)
  have HY1 := Lib.hid (HY.out.at hb1)
  have HA1 := Lib.hid (HA.out.at hb1)
  have hz1 := hb1.size
  have c0 := HR1.out.cell (j := 0) (by simp)
  have c1 := HR1.out.cell (j := 1) (by simp)
  have cl := HR1.out.lt
  simp only [List.getElem_cons_zero, List.getElem_cons_succ] at c0 c1
  clear hown hb1
  go_wp2_with (at_builtin; (refine wpList_app_tab (S := fun b => (S b ∨ T b) ∧ b < w.heap.size) (Sy := fun b => T b ∧ b < w.heap.size) (base := W.heap.size) (wm := w1) (y := y) rfl _ _ 22 rfl Tryz.underlying22 infoTab rfl HO.out rfl Seq.way (HY1.out.at Seq.way) (HA1.out.at Seq.way) (fun b h _ => ⟨⟨.inr h.1, h.2⟩, .inl (by have := h.2; omega)⟩) (by go_simp) (by go_simp) (by omega) hz1 ?_))
  intro ao3 cap3 w4 hown4 hk4
  have H4 := Lib.hid hown4
  have B4 := Lib.hid (Hb1.out.trans (((Seq.way : Below w1.heap.size w1 (w1.alloc (.cells #[.slice ha y.call.length hc, .slice la y.ans.length lc] 43))).mono (by omega)).trans (hk4.below.mono hzW)))
  clear hown4 hk4
  go_wp2_with fail
  go_ret
  refine ⟨_, rfl, B4.out, ?_⟩
  have h := H4.out.seq (T := Fr (fun b => S b ∨ T b) w) (by simp; omega) fun b _ h => h.elim (fun h => .inl h.1) fun h => .inr (Nat.le_trans hzW h)
  simpa using h

set_option maxHeartbeats 3200000 in
set_option maxRecDepth 100000 in
theorem withSet_spec {S T : Nat → Prop} {w : World} {v u : Value} {s : List Tab} {y : Tab} {k : Nat} (hs : Seq tabE S w v s) (hy : TabV T w u y) (hk : k < s.length) (hl : s.length ≤ 1000) :
    Calls Tryz.prog 36 #[v, .int .i64 k, u] w (Ret (fun r w' => Seq tabE (Fr (fun b => S b ∨ T b) w) w' r (s.set k y)) w) := by
  have HS := Lib.hid hs.bnd
  obtain ⟨aa, ac, rfl⟩ := hs.shape
  obtain ⟨ha, hc, la, lc, rfl, hY, hA⟩ := hy
  obtain ⟨W, hW⟩ : ∃ W, W = w.alloc (.cells #[.slice ha y.call.length hc, .slice la y.ans.length lc] 43) := ⟨_, rfl⟩
  have HBW := Lib.hid (show Below w.heap.size w W by rw [hW]; exact Seq.way)
  have HR := Lib.hid (show Row 43 W w.heap.size [.slice ha y.call.length hc, .slice la y.ans.length lc] by rw [hW]; exact Row.new w [_, _] 43 rfl)
  have HY := Lib.hid (hY.bnd.at HBW.out)
  have HA := Lib.hid (hA.bnd.at HBW.out)
  have hzW := HBW.out.size
  have HW := Lib.hid hW
  clear hs hY hA hW
  go_enter Tryz.func36, Tryz.ntmps36
  go_upto_region 1 with fail
  rw [← HW.out]
  go_wp2_with fail
  refine (cloneTab_spec (HS.out.at HBW.out) (by omega)).mono ?_
  rintro e w1 ⟨o, rfl, hb1, hown⟩
  obtain ⟨oa, oc, rfl, -⟩ := hown.shape
  obtain ⟨g, rfl⟩ : ∃ g, oa = some ⟨g, 0, none⟩ := by
    obtain ⟨vs, hv, -⟩ := hown
    obtain ⟨g, cap, hv', -⟩ := own_cell hv (i := 0) (by show 0 < s.length * 2; omega)
    simp only [Value.slice.injEq] at hv'
    exact ⟨g, hv'.1⟩
  have hgW : W.heap.size ≤ g := (hown.blk (b := g) rfl).1
  obtain ⟨u1, u2, o0, o1, f0, f1⟩ := hown.tabCells hk
  have HO := Lib.hid (hown.wide (T := fun b => (S b ∨ T b) ∧ b < w.heap.size) fun b hb _ => ⟨.inl hb.1.1, hb.1.2⟩)
  have Hb1 := Lib.hid (below_step hb1 HBW.out)
  have HR1 := Lib.hid (HR.out.below hb1 HR.out.lt)
  have HY1 := Lib.hid (HY.out.at hb1)
  have HA1 := Lib.hid (HA.out.at hb1)
  have HF := Lib.hid (show Own tabE (fun b => (S b ∨ T b) ∧ b < w.heap.size) W.heap.size 43 ((w1.setCell ⟨g, k * 2, none⟩ (.slice ha y.call.length hc)).setCell ⟨g, k * 2 + 1, none⟩ (.slice la y.ans.length lc)) (.slice (some ⟨g, 0, none⟩) s.length oc) (s.set k y) from
    HO.out.setTab rfl hk (HY1.out.mono (fun b hb _ => ⟨⟨.inr hb.1, hb.2⟩, by have := hb.2; omega⟩) fun _ _ _ => rfl) (HA1.out.mono (fun b hb _ => ⟨⟨.inr hb.1, hb.2⟩, by have := hb.2; omega⟩) fun _ _ _ => rfl))
  have HBF := Lib.hid ((Hb1.out.setCell (p := ⟨g, k * 2, none⟩) (show w.heap.size ≤ g by omega) (.slice ha y.call.length hc)).setCell (p := ⟨g, k * 2 + 1, none⟩) (show w.heap.size ≤ g by omega) (.slice la y.ans.length lc))
  have c0 := HR1.out.cell (j := 0) (by simp)
  have c1 := HR1.out.cell (j := 1) (by simp)
  have cl := HR1.out.lt
  simp only [List.getElem_cons_zero, List.getElem_cons_succ] at c0 c1
  have hkI : (k : Int) < (s.length : Int) := by omega
  have hk0 : (0 : Int) ≤ (k : Int) := by omega
  have hkn : ((k : Int) == (s.length : Int)) = false := by simp; omega
  have hkn2 : ((k : Int) = (s.length : Int)) = False := eq_false (by omega)
  clear hown hb1 hgW
  go_wp2_with fail
  go_ret
  refine ⟨_, rfl, HBF.out, ?_⟩
  have h := HF.out.seq (T := Fr (fun b => S b ∨ T b) w) (by simp; omega) fun b _ h => h.elim (fun h => .inl h.1) fun h => .inr (Nat.le_trans hzW h)
  simpa using h

set_option maxHeartbeats 3200000 in
set_option maxRecDepth 100000 in
theorem withT_spec {S T : Nat → Prop} {w : World} {v u : Value} {l : List (List Cell)} {t : List Cell} (hl : Seq (seqE cellE) S w v l) (ht : Seq cellE T w u t) (hlen : l.length ≤ 1000000) :
    Calls Tryz.prog 39 #[v, .int .i64 l.length, u] w (Ret (fun r w' => Seq (seqE cellE) (Fr (fun b => S b ∨ T b) w) w' r (l ++ [t])) w) := by
  have HL := Lib.hid hl.bnd
  have HT := Lib.hid ht.bnd
  obtain ⟨aa, ac, rfl⟩ := hl.shape
  obtain ⟨ta, tc, rfl⟩ := ht.shape
  clear hl ht
  go_enter Tryz.func39, Tryz.ntmps39
  go_wp2_with fail
  refine (cloneT_spec HL.out (by omega)).mono ?_
  rintro e w1 ⟨o, rfl, hb1, hown⟩
  obtain ⟨oa, oc, rfl, -⟩ := hown.shape
  have HO := Lib.hid (hown.wide (T := fun b => (S b ∨ T b) ∧ b < w.heap.size) fun b hb _ => ⟨.inl hb.1.1, hb.1.2⟩)
  have Hb1 := Lib.hid hb1
  have HT1 := Lib.hid (HT.out.at hb1)
  have hz1 := hb1.size
  clear hown hb1
  go_wp2_with (at_builtin; (refine wpList_app_seq (E := cellE) (S := fun b => (S b ∨ T b) ∧ b < w.heap.size) (Sy := fun b => T b ∧ b < w.heap.size) (base := w.heap.size) (wm := w1) (y := t) rfl _ _ 41 rfl Tryz.underlying41 infoSeqB rfl HO.out rfl Seq.way (HT1.out.at Seq.way) (fun b h _ => ⟨⟨.inr h.1, h.2⟩, .inl h.2⟩) (by go_simp) (by omega) hz1 ?_))
  intro ao3 cap3 w4 hown4 hk4
  have H4 := Lib.hid hown4
  have B4 := Lib.hid (Hb1.out.trans (((Seq.way : Below w1.heap.size w1 (w1.alloc (.cells #[.slice ta t.length tc] 23))).mono (by omega)).trans hk4.below))
  clear hown4 hk4
  go_wp2_with fail
  go_ret
  refine ⟨_, rfl, B4.out, ?_⟩
  have h := H4.out.seq (T := Fr (fun b => S b ∨ T b) w) (by simp; omega) fun b _ h => h.elim (fun h => .inl h.1) .inr
  simpa using h
end
section
open Go Go.RowKit

set_option maxHeartbeats 3200000 in
set_option maxRecDepth 100000 in
theorem OpenP_spec {S T : Nat → Prop} {w : World} {v u : Value} {s : List Tab} {c : List Cell} (hs : Seq tabE S w v s) (hc : Seq cellE T w u c) (pc : 0 < c.length) (lc : c.length ≤ 1000000) (hl : s.length ≤ 1000) :
    Calls Tryz.prog 12 #[v, u] w (fun e w' => ∃ o, e = .returned (.tuple #[o, .int .i64 (openT s c).2]) ∧ Below w.heap.size w w' ∧ Seq tabE (Fr S w) w' o (openT s c).1) := by
  have HS := Lib.hid hs.bnd
  have HC := Lib.hid hc
  obtain ⟨aa, ac, rfl⟩ := hs.shape
  obtain ⟨ca, cc, rfl⟩ := hc.shape
  clear hs hc
  obtain ⟨f, hf⟩ : ∃ f, f = findTb s c := ⟨_, rfl⟩
  have hF := Lib.hid (show Calls Tryz.prog 18 #[.slice aa s.length ac, .slice ca c.length cc] w (RetV (.int .i64 f) w) from hf ▸ FindP14_spec HS.out HC.out pc lc)
  have hO := Lib.hid (show openT s c = if 0 ≤ f then (s, f) else (s ++ [⟨numT c, []⟩], (s.length : Int)) by rw [hf]; rfl)
  clear hf
  go_enter Tryz.func12, Tryz.ntmps12
  go_wp2_with fail
  refine hF.out.mono ?_
  rintro e w1 ⟨rfl, hb1⟩
  have B1 := Lib.hid hb1
  have hz1 := hb1.size
  clear hb1
  by_cases h0 : 0 ≤ f
  · have h0I : f ≥ 0 := h0
    have hOe := Lib.hid (hO.out.trans (if_pos h0))
    go_wp2_with fail
    go_ret2
    rw [hOe.out]
    exact ⟨_, rfl, B1.out, (HS.out.at B1.out).mono (fun b h _ => .inl h.1) fun _ _ _ => rfl⟩
  · have h0I : ¬ f ≥ 0 := h0
    have hOe := Lib.hid (hO.out.trans (if_neg h0))
    have HS1 := Lib.hid (HS.out.at B1.out)
    have HC1 := Lib.hid (HC.out.at B1.out)
    go_wp2_with fail
    refine (NumberP_spec (HC1.out.at Seq.way) pc lc).mono ?_
    rintro e w3 ⟨v3, rfl, hb3, hs3⟩
    have K3 := Lib.hid (below_step hb3 (Seq.way : Below w1.heap.size w1 _))
    have HN := Lib.hid hs3
    obtain ⟨na, nc, rfl⟩ := hs3.shape
    have hz3 := K3.out.size
    clear hb3 hs3
    obtain ⟨N, hN⟩ : ∃ N, N = numT c := ⟨_, rfl⟩
    rw [← hN] at HN hOe ⊢
    clear hN
    go_wp2_with fail
    refine (withApp_spec (T := fun b => w1.heap.size ≤ b) (y := ⟨N, []⟩) ((HS1.out.at K3.out).at Seq.way) ⟨na, nc, none, 0, rfl, (HN.out.at Seq.way).mono (fun b h _ => by simpa using h) fun _ _ _ => rfl, Seq.nil _ _ _⟩ hl).mono ?_
    rintro e w4 ⟨v4, rfl, hb4, hs4⟩
    have K4 := Lib.hid (below_step (below_step hb4 (below_step Seq.way K3.out)) B1.out)
    have HF := Lib.hid hs4
    obtain ⟨oa, oc, rfl⟩ := hs4.shape
    clear hb4 hs4
    go_wp2_with fail
    go_ret2
    rw [hOe.out]
    refine ⟨.slice oa (s.length + 1) oc, by simp, K4.out, ?_⟩
    have h := HF.out.mono (T := Fr S w) (fun b h _ => ?_) fun _ _ _ => rfl
    · simpa using h
    · rcases h with (h | h) | h
      · exact .inl h.1
      · exact .inr (Nat.le_trans hz1 h)
      · exact .inr (by have h : w3.heap.size ≤ b := h; omega)

set_option maxHeartbeats 3200000 in
set_option maxRecDepth 100000 in
theorem AnswerP_spec {S T : Nat → Prop} {w : World} {v u : Value} {s : List Tab} {t : List Cell} {n : Int} (hs : Seq tabE S w v s) (ht : Seq cellE T w u t) (hl : s.length ≤ 1000) (ha : ∀ x ∈ s, x.ans.length ≤ 1000000) :
    Calls Tryz.prog 14 #[v, .int .i64 n, u] w (fun e w' => ∃ o, e = .returned (.tuple #[o, .bool (newA s n t)]) ∧ Below w.heap.size w w' ∧ Seq tabE (Fr (fun b => S b ∨ T b) w) w' o (answerT s n t).1) := by
  have HS := Lib.hid hs.bnd
  have HT := Lib.hid ht.bnd
  obtain ⟨aa, ac, rfl⟩ := hs.shape
  obtain ⟨ta, tc, rfl⟩ := ht.shape
  clear hs ht
  by_cases h0 : n < 0
  · have hne := Lib.hid (newA_no (s := s) (t := t) (.inl h0))
    have hae := Lib.hid (show answerT s n t = (s, false) by unfold answerT; rw [hne.out]; rfl)
    go_enter Tryz.func14, Tryz.ntmps14
    go_wp2_with fail
    go_ret2
    rw [hae.out, hne.out]
    exact ⟨_, rfl, by first | exact Below.refl _ _ | exact Seq.way, (HS.out.at (by first | exact Below.refl _ _ | exact Seq.way)).mono (fun b h _ => .inl (.inl h.1)) fun _ _ _ => rfl⟩
  by_cases h1 : n ≥ (s.length : Int)
  · have hne := Lib.hid (newA_no (s := s) (t := t) (.inr h1))
    have hae := Lib.hid (show answerT s n t = (s, false) by unfold answerT; rw [hne.out]; rfl)
    go_enter Tryz.func14, Tryz.ntmps14
    go_wp2_with fail
    go_ret2
    rw [hae.out, hne.out]
    exact ⟨_, rfl, by first | exact Below.refl _ _ | exact Seq.way, (HS.out.at (by first | exact Below.refl _ _ | exact Seq.way)).mono (fun b h _ => .inl (.inl h.1)) fun _ _ _ => rfl⟩
  obtain ⟨k, rfl⟩ := Int.eq_ofNat_of_zero_le (by omega : 0 ≤ n)
  have hk : k < s.length := by omega
  have hkI : (k : Int) < (s.length : Int) := by omega
  have hk0 : (0 : Int) ≤ (k : Int) := by omega
  have hkt : ((k : Int)).toNat = k := Int.toNat_natCast k
  have hne := Lib.hid (newA_at hk t)
  have hans := Lib.hid (ansT_at hk t)
  have hal := ha _ (List.getElem_mem hk)
  obtain ⟨_, _, ee, -, -, -, -, x5⟩ := HS.out
  simp only [Value.slice.injEq, true_and] at ee
  obtain ⟨rfl, rfl⟩ := ee
  obtain ⟨b, off, ha1, hc1, la, lc, rfl, -, lb, c0, c1, hH, hA⟩ := x5.tab hk
  obtain ⟨x, hx⟩ : ∃ x, x = s[k] := ⟨_, rfl⟩
  rw [← hx] at c0 c1 hH hA hne hans hal
  have HA := Lib.hid hA
  have HH := Lib.hid hH
  obtain ⟨bb, hbb⟩ : ∃ bb, bb = hasT x.ans t := ⟨_, rfl⟩
  have hHas := Lib.hid (show Calls Tryz.prog 38 #[.slice la x.ans.length lc, .slice ta t.length tc] w (RetV (.bool bb) w) from hbb ▸ hasP_spec HA.out HT.out)
  rw [← hbb] at hne
  clear hx hH hA x5 hbb ha h0 h1
  go_enter Tryz.func14, Tryz.ntmps14
  go_wp2_with fail
  refine hHas.out.mono ?_
  rintro e w1 ⟨rfl, hb1⟩
  have B1 := Lib.hid hb1
  have hz1 := hb1.size
  have d0 := (hb1.cell (p := ⟨b, off + k * 2, none⟩) lb).trans c0
  have d1 := (hb1.cell (p := ⟨b, off + k * 2 + 1, none⟩) lb).trans c1
  have lb1 := Nat.lt_of_lt_of_le lb hz1
  clear hb1 c0 c1 hHas
  cases bb with
  | true =>
    have hae := Lib.hid (show answerT s (k : Int) t = (s, false) by unfold answerT; rw [hne.out]; rfl)
    go_wp2_with fail
    go_ret2
    rw [hae.out, hne.out]
    exact ⟨_, rfl, B1.out, (HS.out.at B1.out).mono (fun b h _ => .inl (.inl h.1)) fun _ _ _ => rfl⟩
  | false =>
    have hae := Lib.hid (show answerT s (k : Int) t = (s.set k ⟨x.call, x.ans ++ [t]⟩, true) by unfold answerT; rw [hne.out, Int.toNat_natCast, hans.out]; rfl)
    obtain ⟨W, hW⟩ : ∃ W, W = w1.alloc (.cells #[.slice ha1 x.call.length hc1, .slice la x.ans.length lc] 43) := ⟨_, rfl⟩
    have HBW := Lib.hid (show Below w1.heap.size w1 W by rw [hW]; exact Seq.way)
    have HR := Lib.hid (show Row 43 W w1.heap.size [.slice ha1 x.call.length hc1, .slice la x.ans.length lc] by rw [hW]; exact Row.new w1 [_, _] 43 rfl)
    have BW := Lib.hid (below_step HBW.out B1.out)
    have HSW := Lib.hid (HS.out.at BW.out)
    have HAW := Lib.hid (HA.out.at BW.out)
    have HHW := Lib.hid (HH.out.at BW.out)
    have HTW := Lib.hid (HT.out.at BW.out)
    have hzW := BW.out.size
    have HW := Lib.hid hW
    clear hW
    go_upto_region 4 with fail
    rw [← HW.out]
    have c0 := HR.out.cell (j := 0) (by simp)
    have c1 := HR.out.cell (j := 1) (by simp)
    have cl := HR.out.lt
    simp only [List.getElem_cons_zero, List.getElem_cons_succ] at c0 c1
    clear d0 d1 lb1 lb
    go_wp2_with fail
    refine (withT_spec HAW.out HTW.out hal).mono ?_
    rintro e w2 ⟨v2, rfl, hb2, hs2⟩
    have HL := Lib.hid hs2
    obtain ⟨oa, oc, rfl⟩ := hs2.shape
    have B2 := Lib.hid (below_step hb2 BW.out)
    have HR2 := Lib.hid (HR.out.below hb2 HR.out.lt)
    have HS2 := Lib.hid (HSW.out.at hb2)
    have HH2 := Lib.hid (HHW.out.at hb2)
    have hz2 := hb2.size
    clear c0 c1 cl hb2 hs2
    have c0 := HR2.out.cell (j := 0) (by simp)
    have c1 := HR2.out.cell (j := 1) (by simp)
    have f1 := HR2.out.frozen 1
    have cl := HR2.out.lt
    simp only [List.getElem_cons_zero, List.getElem_cons_succ] at c0 c1
    obtain ⟨W2, hW2⟩ : ∃ W2, W2 = w2.setCell ⟨w1.heap.size, 1, none⟩ (.slice oa (x.ans ++ [t]).length oc) := ⟨_, rfl⟩
    have hne2 : ∀ b, b ≠ w1.heap.size → W2.heap[b]? = w2.heap[b]? := fun b hb => by rw [hW2]; exact Below.heap_setCell _ _ _ _ hb
    have B22 := Lib.hid (show Below w.heap.size w W2 by rw [hW2]; exact B2.out.setCell hz1 _)
    have HS3 := Lib.hid (HS2.out.mono (w' := W2) (fun b h _ => h) fun b h _ => hne2 b (by have := h.2; omega))
    have HH3 := Lib.hid (HH2.out.mono (w' := W2) (fun b h _ => h) fun b h _ => hne2 b (by have := h.2; omega))
    have HL3 := Lib.hid (HL.out.mono (T := fun b => ((S b ∨ T b) ∧ b < w.heap.size) ∨ W.heap.size ≤ b) (w' := W2) (fun b h _ => by
      rcases h with (h | h) | h
      · exact .inl ⟨.inl h.1, h.2⟩
      · exact .inl ⟨.inr h.1, h.2⟩
      · exact .inr h) fun b h _ => hne2 b (by
      rcases h with (h | h) | h
      · have := h.2; omega
      · have := h.2; omega
      · have := HR.out.lt; omega))
    have HR3 := Lib.hid (show Row 43 W2 w1.heap.size [.slice ha1 x.call.length hc1, .slice oa (x.ans ++ [t]).length oc] by rw [hW2]; exact HR2.out.set 1 _)
    have HW2 := Lib.hid hW2
    clear hW2 hne2
    go_upto_region 5 with fail
    have hle : (x.ans ++ [t]).length = x.ans.length + 1 := by simp
    rw [hle] at HW2 HR3
    rw [← HW2.out]
    clear c0 c1 f1 cl
    have c0 := HR3.out.cell (j := 0) (by simp)
    have c1 := HR3.out.cell (j := 1) (by simp)
    have cl := HR3.out.lt
    simp only [List.getElem_cons_zero, List.getElem_cons_succ] at c0 c1
    rw [hle] at HL3
    go_wp2_with fail
    refine (withSet_spec (T := fun b => ((S b ∨ T b) ∧ b < w.heap.size) ∨ W.heap.size ≤ b) (y := ⟨x.call, x.ans ++ [t]⟩) HS3.out ⟨ha1, hc1, oa, oc, by rw [← hle], HH3.out.mono (fun b h _ => .inl ⟨.inl h.1, h.2⟩) fun _ _ _ => rfl, by rw [hle]; exact HL3.out⟩ hk hl).mono ?_
    rintro e w4 ⟨v4, rfl, hb4, hs4⟩
    have K4 := Lib.hid (below_step hb4 B22.out)
    have HF := Lib.hid hs4
    obtain ⟨oa, oc, rfl⟩ := hs4.shape
    have hz3 := B22.out.size
    clear hb4 hs4
    go_wp2_with fail
    go_ret2
    rw [hae.out, hne.out]
    refine ⟨.slice oa s.length oc, by simp, K4.out, ?_⟩
    have h := HF.out.mono (T := Fr (fun b => S b ∨ T b) w) (fun b h _ => ?_) fun _ _ _ => rfl
    · simpa using h
    · rcases h with (h | h | h) | h
      · exact .inl (.inl h.1)
      · exact .inl h.1
      · exact .inr (by omega)
      · exact .inr (by omega)

set_option maxHeartbeats 3200000 in
set_option maxRecDepth 100000 in
theorem TotalP_spec {S : Nat → Prop} {w : World} {v : Value} {s : List Tab} (hs : Seq tabE S w v s) (hl : s.length ≤ 1000) (ha : ∀ t ∈ s, t.ans.length ≤ 1000000) :
    Calls Tryz.prog 22 #[v] w (RetV (.int .i64 (totalT s)) w) := by
  have HS := Lib.hid hs
  obtain ⟨aa, ac, rfl⟩ := hs.shape
  have hA := Lib.hid ha
  clear hs ha
  go_enter Tryz.func22, Tryz.ntmps22
  go_wp2_with fail
  go_loopw [3, 8] (fun n i wr => ∃ k : Nat, k ≤ s.length ∧ i = .int .i64 k ∧ n = .int .i64 (totalT (s.take k)) ∧ Hid (Below w.heap.size w wr)) (fun _ i _ => s.length - (intOf i).toNat)
  case atStart => exact ⟨0, Nat.zero_le _, rfl, rfl, Lib.hid (by first | exact Below.refl _ _ | exact Seq.way)⟩
  case round =>
    obtain ⟨k, hk, rfl, rfl, hbr⟩ := hrel
    by_cases hlt : k < s.length
    · obtain ⟨_, _, ee, -, -, -, -, x5⟩ := HS.out.at hbr.out
      simp only [Value.slice.injEq, true_and] at ee
      obtain ⟨rfl, rfl⟩ := ee
      obtain ⟨b, off, ha, hc, la, lc, rfl, -, lb, c0, c1, hH, hA2⟩ := x5.tab hlt
      have hst := Lib.hid (tot_take hlt)
      have hbd := tot_bound (s := s.take k) fun t ht => hA.out t (List.mem_of_mem_take ht)
      have hb1 := hA.out _ (List.getElem_mem hlt)
      rw [List.length_take, Nat.min_eq_left hk] at hbd
      obtain ⟨m, hm⟩ : ∃ m, m = totalT (s.take k) := ⟨_, rfl⟩
      rw [← hm] at hst hbd ⊢
      obtain ⟨x, hx⟩ : ∃ x, x = s[k] := ⟨_, rfl⟩
      rw [← hx] at c0 c1 hst hb1
      have hkI : (k : Int) < (s.length : Int) := by omega
      have hk0 : (0 : Int) ≤ (k : Int) := by omega
      have hw : wrap64 ((m : Int) + (x.ans.length : Int)) = (m : Int) + (x.ans.length : Int) := by unfold wrap64; omega
      clear hx hm hH hA2 x5
      go_wp2_with fail
      go_roundw
      case rel => exact ⟨k + 1, hlt, by go_num, by rw [hst.out, Int.natCast_add], Lib.hid (by first | exact hbr.out | exact below_step Seq.way hbr.out)⟩
      case measure => simp [intOf]; omega
    · obtain rfl : k = s.length := by omega
      have hkI : ¬ (s.length : Int) < (s.length : Int) := by omega
      rw [List.take_length]
      go_wp2_with fail
      go_ret
      exact ⟨rfl, hbr.out⟩
end
end Go.Proofs.YtckkjjiaecnciaaGreat
