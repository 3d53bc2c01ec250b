/-
  The program: deps.other, Again.
  The program: deps.Again.
-/
import Derived.Test.YtbcambjonjhopaaDpO
namespace Go.Proofs.Ytbcambjonjhopaa
section
open Go Go.RowKit

set_option maxHeartbeats 3200000 in
set_option maxRecDepth 100000 in
theorem oth_idx {S : Nat → Prop} {w : World} {v : Value} {l : List (Tab)} {bt : Nat} {p : Tab → Bool} (hl : Seq (tabE) S w v l)
    (hc : ∀ (W' : World) (U : Nat → Prop) (u : Value), Below w.heap.size w W' → ∀ x ∈ l, TabV U W' u x → Calls Try.prog 44 #[u, .pointer (some ⟨bt, 0, none⟩)] W' (RetV (.bool (p x)) W')) :
    Calls Try.prog 45 #[v, .func (.func 44) #[] #[.pointer (some ⟨bt, 0, none⟩)]] w (RetV (.int .i64 (idxZ p l)) w) := by
  have HL := Lib.hid hl
  have hll : l.length ≤ 140737488355328 := by obtain ⟨_, _, _, _, _, h, _⟩ := hl; exact h
  obtain ⟨aa, ac, rfl⟩ := hl.shape
  have Hc := Lib.hid hc
  clear hl hc
  go_enter Try.func45, Try.ntmps45
  go_wp2_with fail
  go_loopw [8] (fun i wr => ∃ k : Nat, k ≤ l.length ∧ i = .int .i64 k ∧ Hid (∀ j (h : j < l.length), j < k → p l[j] = false) ∧ Hid (Below w.heap.size w wr)) (fun i _ => l.length - (intOf i).toNat)
  case atStart => exact ⟨0, Nat.zero_le _, rfl, Lib.hid (fun i _ h => absurd h (Nat.not_lt_zero _)), Lib.hid Seq.way⟩
  case round =>
    obtain ⟨k, hk, rfl, hno, hbr⟩ := hrel
    by_cases hlt : k < l.length
    · obtain ⟨_, _, ee, -, -, -, -, h5⟩ := HL.out.at hbr.out
      simp only [Value.slice.injEq, true_and] at ee
      obtain ⟨rfl, rfl⟩ := ee
      obtain ⟨b, off, p1, n1, p2, n2, rfl, -, _hb, c0, c1, hX1, hX2⟩ := h5.tab hlt
      have hy := Lib.hid (show p l[k] = true → idxZ p l = (k : Int) from fun h => idxZ_hit hlt h fun j hj hjk => hno.out j hj hjk)
      have hz := Lib.hid (show p l[k] = false → ∀ i (h : i < l.length), i < k + 1 → p l[i] = false from fun h i hi hlt => by
        by_cases e : i = k
        · subst e; exact h
        · exact hno.out i hi (by omega))
      have hcc := Lib.hid (Hc.out _ _ _ hbr.out _ (List.getElem_mem hlt) ⟨_, _, _, _, rfl, hX1, hX2⟩)
      obtain ⟨x, hx⟩ : ∃ x, x = l[k] := ⟨_, rfl⟩
      rw [← hx] at c0 c1 hy hz hcc
      obtain ⟨d, hd⟩ : ∃ d, d = p x := ⟨_, rfl⟩
      rw [← hd] at hy hz hcc
      clear hx h5 hd hX1 hX2
      have hkl : (k : Int) < (l.length : Int) := by omega
      have hk0 : (0 : Int) ≤ (k : Int) := by omega
      go_wp2_with fail
      refine hcc.out.mono ?_
      rintro e w1 ⟨rfl, hb1⟩
      have B1 := Lib.hid (below_step hb1 hbr.out)
      clear hb1
      cases d with
      | true =>
        have hy' := Lib.hid (hy.out rfl)
        clear hy hz
        go_wp2_with fail
        go_ret
        exact ⟨ret_int hy'.out.symm, B1.out⟩
      | false =>
        have hz' := Lib.hid (hz.out rfl)
        clear hy hz
        go_wp2_with fail
        go_roundw
        case rel => exact ⟨k + 1, hlt, by go_num, hz', B1⟩
        case measure => simp [intOf]; omega
    · have hkl : ¬ (k : Int) < (l.length : Int) := by omega
      have hd := Lib.hid (idxZ_miss fun j hj => hno.out j hj (by omega))
      clear hlt hno
      go_wp2_with fail
      go_ret
      exact ⟨ret_int hd.out.symm, hbr.out⟩

set_option maxHeartbeats 3200000 in
set_option maxRecDepth 100000 in
theorem agn_idx {S : Nat → Prop} {w : World} {v : Value} {l : List (Int)} {bt : Nat} {p : Int → Bool} (hl : Seq (intE) S w v l)
    (hc : ∀ (W' : World) (_U : Nat → Prop) (u : Value), Below w.heap.size w W' → ∀ x ∈ l, u = .int .i64 x ∧ IntOK x → Calls Try.prog 27 #[u, .pointer (some ⟨bt, 0, none⟩)] W' (RetV (.bool (p x)) W')) :
    Calls Try.prog 42 #[v, .func (.func 27) #[] #[.pointer (some ⟨bt, 0, none⟩)]] w (RetV (.int .i64 (idxZ p l)) w) := by
  have HL := Lib.hid hl
  have hll : l.length ≤ 140737488355328 := by obtain ⟨_, _, _, _, _, h, _⟩ := hl; exact h
  obtain ⟨aa, ac, rfl⟩ := hl.shape
  have Hc := Lib.hid hc
  clear hl hc
  go_enter Try.func42, Try.ntmps42
  go_wp2_with fail
  go_loopw [8] (fun i wr => ∃ k : Nat, k ≤ l.length ∧ i = .int .i64 k ∧ Hid (∀ j (h : j < l.length), j < k → p l[j] = false) ∧ Hid (Below w.heap.size w wr)) (fun i _ => l.length - (intOf i).toNat)
  case atStart => exact ⟨0, Nat.zero_le _, rfl, Lib.hid (fun i _ h => absurd h (Nat.not_lt_zero _)), Lib.hid Seq.way⟩
  case round =>
    obtain ⟨k, hk, rfl, hno, hbr⟩ := hrel
    by_cases hlt : k < l.length
    · obtain ⟨_, _, ee, -, -, -, -, h5⟩ := HL.out.at hbr.out
      simp only [Value.slice.injEq, true_and] at ee
      obtain ⟨rfl, rfl⟩ := ee
      obtain ⟨b, off, rfl, -, _hb, c0, hX⟩ := h5.int hlt
      have hy := Lib.hid (show p l[k] = true → idxZ p l = (k : Int) from fun h => idxZ_hit hlt h fun j hj hjk => hno.out j hj hjk)
      have hz := Lib.hid (show p l[k] = false → ∀ i (h : i < l.length), i < k + 1 → p l[i] = false from fun h i hi hlt => by
        by_cases e : i = k
        · subst e; exact h
        · exact hno.out i hi (by omega))
      have hcc := Lib.hid (Hc.out _ (fun _ => True) _ hbr.out _ (List.getElem_mem hlt) ⟨rfl, hX⟩)
      obtain ⟨x, hx⟩ : ∃ x, x = l[k] := ⟨_, rfl⟩
      rw [← hx] at c0 hy hz hcc
      obtain ⟨d, hd⟩ : ∃ d, d = p x := ⟨_, rfl⟩
      rw [← hd] at hy hz hcc
      clear hx h5 hd hX
      have hkl : (k : Int) < (l.length : Int) := by omega
      have hk0 : (0 : Int) ≤ (k : Int) := by omega
      go_wp2_with fail
      refine hcc.out.mono ?_
      rintro e w1 ⟨rfl, hb1⟩
      have B1 := Lib.hid (below_step hb1 hbr.out)
      clear hb1
      cases d with
      | true =>
        have hy' := Lib.hid (hy.out rfl)
        clear hy hz
        go_wp2_with fail
        go_ret
        exact ⟨ret_int hy'.out.symm, B1.out⟩
      | false =>
        have hz' := Lib.hid (hz.out rfl)
        clear hy hz
        go_wp2_with fail
        go_roundw
        case rel => exact ⟨k + 1, hlt, by go_num, hz', B1⟩
        case measure => simp [intOf]; omega
    · have hkl : ¬ (k : Int) < (l.length : Int) := by omega
      have hd := Lib.hid (idxZ_miss fun j hj => hno.out j hj (by omega))
      clear hlt hno
      go_wp2_with fail
      go_ret
      exact ⟨ret_int hd.out.symm, hbr.out⟩

set_option maxRecDepth 100000 in
theorem agn_has {S : Nat → Prop} {w : World} {v : Value} {l : List (Int)} {bt : Nat} {p : Int → Bool} (hl : Seq (intE) S w v l)
    (hc : ∀ (W' : World) (_U : Nat → Prop) (u : Value), Below w.heap.size w W' → ∀ x ∈ l, u = .int .i64 x ∧ IntOK x → Calls Try.prog 27 #[u, .pointer (some ⟨bt, 0, none⟩)] W' (RetV (.bool (p x)) W')) :
    Calls Try.prog 26 #[v, .func (.func 27) #[] #[.pointer (some ⟨bt, 0, none⟩)]] w (RetV (.bool (l.any p)) w) := by
  have HL := Lib.hid hl
  obtain ⟨aa, ac, rfl⟩ := hl.shape
  have Hc := Lib.hid hc
  clear hl hc
  have hr := Lib.hid (any_idx p l)
  go_enter Try.func26, Try.ntmps26
  go_wp2_with fail
  refine (agn_idx HL.out Hc.out).mono ?_
  rintro e w' ⟨rfl, hb⟩
  have HB := Lib.hid hb
  clear hb
  obtain ⟨z, hz⟩ : ∃ z, z = idxZ p l := ⟨_, rfl⟩
  rw [← hz] at hr ⊢
  clear hz
  go_wp2_with fail
  go_ret
  exact ⟨ret_bool (by rw [hr.out]; try rfl), HB.out⟩

set_option maxRecDepth 100000 in
theorem other1_spec {S T : Nat → Prop} {w : World} {v : Value} {x : Tab} {t : List Cell} {bt : Nat} {pa : Option Addr} {pc : Nat} (lt : bt < w.heap.size) (ct : w.cell? ⟨bt, 0, none⟩ = some (.slice pa t.length pc)) (ht : Seq cellE S w (.slice pa t.length pc) t) (hx : TabV T w v x) :
    Calls Try.prog 44 #[v, .pointer (some ⟨bt, 0, none⟩)] w (RetV (.bool (decide (x.call = t))) w) := by
  obtain ⟨xa, xc, ya, yc, rfl, hX, -⟩ := hx
  obtain ⟨W, hW⟩ : ∃ W, W = w.alloc (.cells #[.slice xa x.call.length xc, .slice ya x.ans.length yc] 43) := ⟨_, rfl⟩
  have HBW := Lib.hid (show Below w.heap.size w W by rw [hW]; exact Seq.way)
  have HW := Lib.hid hW
  have HR := Lib.hid (show Row 43 W w.heap.size [.slice xa x.call.length xc, .slice ya x.ans.length yc] by rw [hW]; exact Row.new w [_, _] _ rfl)
  obtain ⟨bq, hbq⟩ : ∃ b, b = w.heap.size := ⟨_, rfl⟩
  have Hbq := Lib.hid hbq
  rw [← hbq] at HR
  have c0 := HR.out.cell (j := 0) (by simp)
  simp only [List.getElem_cons_zero] at c0
  have cl := HR.out.lt
  have ct2 : W.cell? ⟨bt, 0, none⟩ = _ := (HBW.out.cell (p := ⟨bt, 0, none⟩) lt).trans ct
  have ctl : bt < W.heap.size := Nat.lt_of_lt_of_le lt HBW.out.size
  have HX := Lib.hid (hX.at HBW.out)
  have HT := Lib.hid (ht.at HBW.out)
  clear hW hX ht hbq lt ct
  go_enter Try.func44, Try.ntmps44
  go_upto_region 1 with fail
  rw [← HW.out, ← Hbq.out]
  go_wp2_with fail
  refine (SameP_spec (HX.out.at Seq.way) (HT.out.at Seq.way)).mono ?_
  rintro e w1 ⟨rfl, hq⟩
  have HQ := Lib.hid (below_step (below_step hq.belowS Seq.way) HBW.out)
  clear hq
  go_wp2_with fail
  go_ret
  exact ⟨rfl, HQ.out⟩

set_option maxHeartbeats 1600000 in
set_option maxRecDepth 100000 in
theorem eqF_spec {S T : Nat → Prop} {w : World} {v u : Value} {a b : List (List Cell)} (ha : Seq (seqE cellE) S w v a) (hb : Seq (seqE cellE) T w u b) :
    Calls Try.prog 46 #[v, u, .func (.func 35) #[] #[]] w (RetV (.bool (decide (a = b))) w) := by
  have HA := Lib.hid ha
  have HB := Lib.hid hb
  have hal : a.length ≤ 140737488355328 := by obtain ⟨_, _, _, _, _, h, _⟩ := ha; exact h
  obtain ⟨aa, ac, rfl⟩ := ha.shape
  obtain ⟨ba, bc, rfl⟩ := hb.shape
  clear ha hb
  go_enter Try.func46, Try.ntmps46
  by_cases hl : a.length = b.length
  · have hl' : ((a.length : Int) != (b.length : Int)) = false := by simp [hl]
    have Hl := Lib.hid hl
    clear hl
    go_wp2_with fail
    go_loopw [17] (fun i wr => ∃ k : Nat, k ≤ a.length ∧ i = .int .i64 k ∧ Hid (∀ j, j < k → a[j]? = b[j]?) ∧ Hid (Below w.heap.size w wr)) (fun i _ => a.length - (intOf i).toNat)
    case atStart => exact ⟨0, Nat.zero_le _, rfl, Lib.hid (by simp), Lib.hid (Below.refl _ _)⟩
    case round =>
      obtain ⟨k, hk, rfl, hno, hbr⟩ := hrel
      by_cases hka : k < a.length
      · have hkb : k < b.length := by rw [← Hl.out]; exact hka
        obtain ⟨_, _, ee, -, -, -, -, x5⟩ := HA.out.at hbr.out
        simp only [Value.slice.injEq, true_and] at ee
        obtain ⟨rfl, rfl⟩ := ee
        obtain ⟨_, _, ee, -, -, -, -, y5⟩ := HB.out.at hbr.out
        simp only [Value.slice.injEq, true_and] at ee
        obtain ⟨rfl, rfl⟩ := ee
        obtain ⟨b1, o1, p1, n1, rfl, -, l1, c0, hX⟩ := x5.seq hka
        obtain ⟨b2, o2, p2, n2, rfl, -, l2, d0, hY⟩ := y5.seq hkb
        have hx := Lib.hid (show a[k] = b[k] → ∀ j, j < k + 1 → a[j]? = b[j]? from fun h j hj => by
          by_cases e : j = k
          · subst e; rw [List.getElem?_eq_getElem hka, List.getElem?_eq_getElem hkb, h]
          · exact hno.out j (by omega))
        have hn := Lib.hid (show a[k] ≠ b[k] → decide (a = b) = false from fun h => decide_eq_false fun e => by subst e; exact h rfl)
        have HX := Lib.hid hX
        have HY := Lib.hid hY
        obtain ⟨x, hxe⟩ : ∃ x, x = a[k] := ⟨_, rfl⟩
        obtain ⟨y, hye⟩ : ∃ y, y = b[k] := ⟨_, rfl⟩
        rw [← hxe] at c0 hx hn HX
        rw [← hye] at d0 hx hn HY
        clear hxe hye hX hY x5 y5
        have hkl : (k : Int) < (a.length : Int) := by omega
        have hkm : (k : Int) < (b.length : Int) := by omega
        have hk0 : (0 : Int) ≤ (k : Int) := by omega
        go_wp2_with fail
        refine (SameP_spec (HX.out.at Seq.way) (HY.out.at Seq.way)).mono ?_
        rintro e w1 ⟨rfl, hq⟩
        have hq' := Lib.hid (below_step (below_step hq.belowS Seq.way) hbr.out)
        clear hq
        by_cases he : x = y
        · have hx' := Lib.hid (hx.out he)
          rw [decide_eq_true he]
          clear hx hn he
          go_wp2_with fail
          go_roundw
          case rel => exact ⟨k + 1, hka, by go_num, hx', hq'⟩
          case measure => simp [intOf]; omega
        · have hn' := Lib.hid (hn.out he)
          rw [decide_eq_false he]
          clear hx hn he
          go_wp2_with fail
          go_ret
          exact ⟨ret_bool hn'.out.symm, hq'.out⟩
      · have he := Lib.hid (show decide (a = b) = true from decide_eq_true (List.ext_getElem? fun j => by
          by_cases hj : j < a.length
          · exact hno.out j (by omega)
          · rw [List.getElem?_eq_none (by omega), List.getElem?_eq_none (by have := Hl.out; omega)]))
        have hkn : ¬ (k : Int) < (a.length : Int) := by omega
        clear hno hka
        go_wp2_with fail
        go_ret
        exact ⟨ret_bool he.out.symm, hbr.out⟩
  · have hd := Lib.hid (show decide (a = b) = false from decide_eq_false fun h => hl (by rw [h]))
    have hl' : ((a.length : Int) != (b.length : Int)) = true := by simp; omega
    clear hl
    go_wp2_with fail
    go_ret
    exact ⟨ret_bool hd.out.symm, Below.refl _ _⟩

set_option maxHeartbeats 3200000 in
set_option maxRecDepth 100000 in
theorem otherP_spec {S T : Nat → Prop} {w : World} {v u : Value} {t : Tab} {r : Res} (ht : TabV S w v t) (hr : ResV T w u r) :
    Calls Try.prog 29 #[v, u] w (RetV (.bool (otherB t r.tabs)) w) := by
  obtain ⟨ha, hc, la2, lc2, rfl, hTC, hTA⟩ := ht
  obtain ⟨ta, tc, ia, il, ic, la, lc, rfl, hT, hE⟩ := hr
  obtain ⟨W1, hW1⟩ : ∃ W, W = w.alloc (.cells #[.slice ha t.call.length hc, .slice la2 t.ans.length lc2] 43) := ⟨_, rfl⟩
  have HBW1 := Lib.hid (show Below w.heap.size w W1 by rw [hW1]; exact Seq.way)
  have HW1 := Lib.hid hW1
  have hsW1 : W1.heap.size = w.heap.size + 1 := by rw [hW1]; simp
  obtain ⟨b1t, hb1t⟩ : ∃ b, b = w.heap.size := ⟨_, rfl⟩
  have Hb1t := Lib.hid hb1t
  have HRW1 := Lib.hid (show RowA 43 W1 b1t [.slice ha t.call.length hc, .slice la2 t.ans.length lc2] by rw [hW1, show b1t = w.heap.size by omega]; exact Row.new w [_, _] _ rfl)
  have K1 := fun {W' : World} (h : Below W1.heap.size W1 W') => Lib.hid (show W'.cell? ⟨b1t, 0, none⟩ = some (.slice ha t.call.length hc) ∧ W'.cell? ⟨b1t, 1, none⟩ = some (.slice la2 t.ans.length lc2) ∧ b1t < W'.heap.size from
    ⟨(HRW1.out.at h).row.cell (j := 0) (by simp), (HRW1.out.at h).row.cell (j := 1) (by simp), (HRW1.out.at h).row.lt⟩)
  obtain ⟨W, hW⟩ : ∃ W, W = W1.alloc (.cells #[.slice ta r.tabs.length tc, .slice ia il ic, .slice la r.lks.length lc] 26) := ⟨_, rfl⟩
  have HBW := Lib.hid (show Below W1.heap.size W1 W by rw [hW]; exact Seq.way)
  have HW := Lib.hid hW
  have hsW : W.heap.size = W1.heap.size + 1 := by rw [hW]; simp
  obtain ⟨bt, hbt⟩ : ∃ b, b = w.heap.size + 1 := ⟨_, rfl⟩
  have Hbt := Lib.hid hbt
  have HRW := Lib.hid (show RowA 26 W bt [.slice ta r.tabs.length tc, .slice ia il ic, .slice la r.lks.length lc] by rw [hW, show bt = W1.heap.size by omega]; exact Row.new W1 [_, _, _] _ rfl)
  have Kr := fun {W' : World} (h : Below W.heap.size W W') => Lib.hid (show W'.cell? ⟨bt, 0, none⟩ = some (.slice ta r.tabs.length tc) ∧ W'.cell? ⟨bt, 1, none⟩ = some (.slice ia il ic) ∧ W'.cell? ⟨bt, 2, none⟩ = some (.slice la r.lks.length lc) ∧ bt < W'.heap.size from
    ⟨(HRW.out.at h).row.cell (j := 0) (by simp), (HRW.out.at h).row.cell (j := 1) (by simp), (HRW.out.at h).row.cell (j := 2) (by simp), (HRW.out.at h).row.lt⟩)
  have HBw := Lib.hid (below_step HBW.out HBW1.out)
  have HTC := Lib.hid (hTC.at HBw.out)
  have HTA := Lib.hid (hTA.at HBw.out)
  have HT := Lib.hid (hT.at HBw.out)
  clear hTC hTA hT hE hW1 hW hb1t hbt hsW1 hsW
  have Kt := fun {W' : World} (h : Below W.heap.size W W') => K1 (below_step h HBW.out)
  have hcall := Lib.hid (oth_idx (bt := b1t) (p := fun x => decide (x.call = t.call)) HT.out fun W' U u' hW' x hx hu => other1_spec (Kt hW').out.2.2 (Kt hW').out.1 (HTC.out.at hW') hu)
  have hnone := Lib.hid (show idxZ (fun x => decide (x.call = t.call)) r.tabs = -1 → otherB t r.tabs = true from fun h => by
    rcases idxZ_cases (fun x : Tab => decide (x.call = t.call)) r.tabs with ⟨-, h2⟩ | ⟨k, hk, h2, -⟩
    · exact otherB_miss fun j hj e => by have := h2 j hj; rw [decide_eq_true e] at this; cases this
    · omega)
  have hsome := Lib.hid (show ∀ k : Nat, idxZ (fun x => decide (x.call = t.call)) r.tabs = (k : Int) → ∃ hk : k < r.tabs.length, otherB t r.tabs = !decide (r.tabs[k].ans = t.ans) from fun k h => by
    obtain ⟨hk, h1, h2⟩ := idxZ_nat h
    exact ⟨hk, otherB_hit hk (fun j hj hjk e => by have := h2 j hj hjk; rw [decide_eq_true e] at this; cases this) (of_decide_eq_true h1)⟩)
  have hrng := Lib.hid (show idxZ (fun x => decide (x.call = t.call)) r.tabs = -1 ∨ ∃ k : Nat, idxZ (fun x => decide (x.call = t.call)) r.tabs = (k : Int) from by
    rcases idxZ_cases (fun x : Tab => decide (x.call = t.call)) r.tabs with ⟨h, -⟩ | ⟨k, -, h, -⟩
    · exact .inl h
    · exact .inr ⟨k, h⟩)
  obtain ⟨z, hz⟩ : ∃ z, z = idxZ (fun x => decide (x.call = t.call)) r.tabs := ⟨_, rfl⟩
  rw [← hz] at hcall hnone hsome hrng
  clear hz
  go_enter Try.func29, Try.ntmps29
  go_upto_region 1 with fail
  rw [← HW1.out, ← HW.out, ← Hbt.out, ← Hb1t.out]
  obtain ⟨r0, r1, r2, rl⟩ := (Kr (Below.refl _ W)).out
  go_wp2_with fail
  refine hcall.out.mono ?_
  rintro e w1 ⟨rfl, hb1⟩
  have HB1 := Lib.hid hb1
  clear hb1 hcall r0 r1 r2 rl
  rcases hrng.out with rfl | ⟨k, rfl⟩
  · have hd := Lib.hid (hnone.out rfl)
    clear hnone hsome hrng
    obtain ⟨r0, r1, r2, rl⟩ := (Kr HB1.out).out
    obtain ⟨t0, t1, tl⟩ := (Kt HB1.out).out
    have Kq := fun {W' : World} (h : Below w1.heap.size w1 W') => Lib.hid (show True from trivial)
    go_upto_region 3 with fail
    clear r0 r1 r2 rl t0 t1 tl
    (try simp only [List.append_eq, List.cons_append, List.nil_append])
    refine wp_region_noPanic ?_
    refine wp_region_held_drew (S := fun w' => True) (by kernel_rfl) ?_ (fun hHeld => ?_)
    · exact (Kq (Below.drew (Below.refl _ _))).out
    refine wpAnyH_take1 (i := 0) (oi := _) (v := ?_) (by kernel_rfl) rfl (by kernel_rfl) (fun _ _ _ h => h) (Or.inl ⟨by rfl, ?_⟩) (by assumption) ?_
    rotate_left 1
    · intro w hSw; (try dsimp only at hSw); go_simp; (with_reducible rfl)
    (try simp only [Act.put, List.getElem_toArray, List.getElem_cons_zero, List.setIfInBounds_toArray, List.set_cons_zero, List.set_cons_succ])
    refine wpAnyH_take1 (i := 1) (oi := _) (v := ?_) (by kernel_rfl) rfl (by kernel_rfl) (fun _ _ _ h => h) (Or.inl ⟨by rfl, ?_⟩) (by assumption) ?_
    rotate_left 1
    · intro w hSw; (try dsimp only at hSw); go_simp; (with_reducible rfl)
    (try simp only [Act.put, List.getElem_toArray, List.getElem_cons_zero, List.getElem_cons_succ, List.setIfInBounds_toArray, List.set_cons_zero, List.set_cons_succ])
    refine wpAnyH_take1 (i := 2) (oi := _) (v := ?_) (by kernel_rfl) rfl (by kernel_rfl) (fun _ _ _ h => h) (Or.inl ⟨by rfl, ?_⟩) (by assumption) ?_
    rotate_left 1
    · intro w hSw; (try dsimp only at hSw); go_simp; (with_reducible rfl)
    (try simp only [Act.put, List.getElem_toArray, List.getElem_cons_zero, List.getElem_cons_succ, List.setIfInBounds_toArray, List.set_cons_zero, List.set_cons_succ])
    refine wpAnyH_take1 (i := 3) (oi := _) (v := undef) (by kernel_rfl) rfl (by kernel_rfl) (fun _ _ _ h => h) (Or.inr ⟨by rfl, rfl⟩) (by assumption) ?_
    (try simp only [Act.put, List.getElem_toArray, List.getElem_cons_zero, List.getElem_cons_succ, List.setIfInBounds_toArray, List.set_cons_zero, List.set_cons_succ])
    refine wpAnyH_take1 (i := 4) (oi := _) (v := undef) (by kernel_rfl) rfl (by kernel_rfl) (fun _ _ _ h => h) (Or.inr ⟨by rfl, rfl⟩) (by assumption) ?_
    (try simp only [Act.put, List.getElem_toArray, List.getElem_cons_zero, List.getElem_cons_succ, List.setIfInBounds_toArray, List.set_cons_zero, List.set_cons_succ])
    refine wpAnyH_take1 (i := 5) (oi := _) (v := undef) (by kernel_rfl) rfl (by kernel_rfl) (fun _ _ _ h => h) (Or.inr ⟨by rfl, rfl⟩) (by assumption) ?_
    (try simp only [Act.put, List.getElem_toArray, List.getElem_cons_zero, List.getElem_cons_succ, List.setIfInBounds_toArray, List.set_cons_zero, List.set_cons_succ])
    refine wpAnyH_take1 (i := 6) (oi := _) (v := undef) (by kernel_rfl) rfl (by kernel_rfl) (fun _ _ _ h => h) (Or.inr ⟨by rfl, rfl⟩) (by assumption) ?_
    (try simp only [Act.put, List.getElem_toArray, List.getElem_cons_zero, List.getElem_cons_succ, List.setIfInBounds_toArray, List.set_cons_zero, List.set_cons_succ])
    refine wpAnyH_take1 (i := 7) (oi := _) (v := undef) (by kernel_rfl) rfl (by kernel_rfl) (fun _ _ _ h => h) (Or.inr ⟨by rfl, rfl⟩) (by assumption) ?_
    (try simp only [Act.put, List.getElem_toArray, List.getElem_cons_zero, List.getElem_cons_succ, List.setIfInBounds_toArray, List.set_cons_zero, List.set_cons_succ])
    refine wpAnyH_take1 (i := 8) (oi := _) (v := undef) (by kernel_rfl) rfl (by kernel_rfl) (fun _ _ _ h => h) (Or.inr ⟨by rfl, rfl⟩) (by assumption) ?_
    (try simp only [Act.put, List.getElem_toArray, List.getElem_cons_zero, List.getElem_cons_succ, List.setIfInBounds_toArray, List.set_cons_zero, List.set_cons_succ])
    refine wpAnyH_take1 (i := 9) (oi := _) (v := undef) (by kernel_rfl) rfl (by kernel_rfl) (fun _ _ _ h => h) (Or.inr ⟨by rfl, rfl⟩) (by assumption) ?_
    (try simp only [Act.put, List.getElem_toArray, List.getElem_cons_zero, List.getElem_cons_succ, List.setIfInBounds_toArray, List.set_cons_zero, List.set_cons_succ])
    refine wpAnyH_take1 (i := 10) (oi := _) (v := undef) (by kernel_rfl) rfl (by kernel_rfl) (fun _ _ _ h => h) (Or.inr ⟨by rfl, rfl⟩) (by assumption) ?_
    (try simp only [Act.put, List.getElem_toArray, List.getElem_cons_zero, List.getElem_cons_succ, List.setIfInBounds_toArray, List.set_cons_zero, List.set_cons_succ])
    refine wpAnyH_take1 (i := 11) (oi := _) (v := undef) (by kernel_rfl) rfl (by kernel_rfl) (fun _ _ _ h => h) (Or.inr ⟨by rfl, rfl⟩) (by assumption) ?_
    (try simp only [Act.put, List.getElem_toArray, List.getElem_cons_zero, List.getElem_cons_succ, List.setIfInBounds_toArray, List.set_cons_zero, List.set_cons_succ])
    refine wpAnyH_take1 (i := 12) (oi := _) (v := undef) (by kernel_rfl) rfl (by kernel_rfl) (fun _ _ _ h => h) (Or.inr ⟨by rfl, rfl⟩) (by assumption) ?_
    (try simp only [Act.put, List.getElem_toArray, List.getElem_cons_zero, List.getElem_cons_succ, List.setIfInBounds_toArray, List.set_cons_zero, List.set_cons_succ])
    refine wpAnyH_take1 (i := 13) (oi := _) (v := ?_) (by kernel_rfl) rfl (by kernel_rfl) (fun _ _ _ h => h) (Or.inl ⟨by rfl, ?_⟩) (by assumption) ?_
    rotate_left 1
    · intro w hSw; (try dsimp only at hSw); go_simp; (with_reducible rfl)
    (try simp only [Act.put, List.getElem_toArray, List.getElem_cons_zero, List.getElem_cons_succ, List.setIfInBounds_toArray, List.set_cons_zero, List.set_cons_succ])
    refine wpAnyH_take1 (i := 14) (oi := _) (v := ?_) (by kernel_rfl) rfl (by kernel_rfl) (fun _ _ _ h => h) (Or.inl ⟨by rfl, ?_⟩) (by assumption) ?_
    rotate_left 1
    · intro w hSw; (try dsimp only at hSw); go_simp; (with_reducible rfl)
    (try simp only [Act.put, List.getElem_toArray, List.getElem_cons_zero, List.getElem_cons_succ, List.setIfInBounds_toArray, List.set_cons_zero, List.set_cons_succ])
    refine wpAnyH_done (by kernel_rfl) ?_ _
    refine NoPanic.normal ?_
    go_wp2_with fail
    go_ret
    exact ⟨ret_bool hd.out.symm, below_step (below_step Seq.way HB1.out) HBw.out⟩
  · obtain ⟨hk, hd⟩ := hsome.out k rfl
    have Hd := Lib.hid hd
    obtain ⟨_, _, ee, -, -, -, -, x5⟩ := HT.out.at HB1.out
    simp only [Value.slice.injEq, true_and] at ee
    obtain ⟨rfl, rfl⟩ := ee
    obtain ⟨b1, o1, ca, cc, la3, lc3, rfl, -, l1, -, c1, -, hA⟩ := x5.tab hk
    have HA := Lib.hid hA
    obtain ⟨x, hx⟩ : ∃ x, x = r.tabs[k] := ⟨_, rfl⟩
    rw [← hx] at c1 HA Hd
    have hkl : (k : Int) < (r.tabs.length : Int) := by omega
    have hk0 : (0 : Int) ≤ (k : Int) := by omega
    have hkg : ((k : Int) < 0) = False := eq_false (by omega)
    have h1 := Lib.hid (fun (W' : World) (h : Below w1.heap.size w1 W') => eqF_spec (w := W') (HA.out.at h) (HTA.out.at (below_step h HB1.out)))
    have Kq := fun {W' : World} (h : Below w1.heap.size w1 W') => Lib.hid (show W'.cell? ⟨bt, 0, none⟩ = some (.slice (some ⟨b1, o1, none⟩) r.tabs.length tc) ∧ W'.cell? ⟨b1t, 1, none⟩ = some (.slice la2 t.ans.length lc2) ∧ W'.cell? ⟨b1, o1 + k * 2 + 1, none⟩ = some (.slice la3 x.ans.length lc3) from
      ⟨((Kr (below_step h HB1.out)).out).1, ((Kt (below_step h HB1.out)).out).2.1, (h.cell (p := ⟨b1, o1 + k * 2 + 1, none⟩) l1).trans c1⟩)
    clear hx x5 hA hnone hsome hrng hd c1 hk
    go_upto_region 3 with fail
    (try simp only [List.append_eq, List.cons_append, List.nil_append])
    refine wp_region_noPanic ?_
    refine wp_region_held_drew (S := fun w' => w'.cell? ⟨bt, 0, none⟩ = some (.slice (some ⟨b1, o1, none⟩) r.tabs.length tc) ∧ w'.cell? ⟨b1t, 1, none⟩ = some (.slice la2 t.ans.length lc2) ∧ w'.cell? ⟨b1, o1 + k * 2 + 1, none⟩ = some (.slice la3 x.ans.length lc3)) (by kernel_rfl) ?_ (fun hHeld => ?_)
    · exact (Kq (Below.drew (Below.refl _ _))).out
    refine wpAnyH_take1 (i := 0) (oi := _) (v := ?_) (by kernel_rfl) rfl (by kernel_rfl) (fun _ _ _ h => h) (Or.inl ⟨by rfl, ?_⟩) (by assumption) ?_
    rotate_left 1
    · intro w hSw; (try dsimp only at hSw); go_simp; (with_reducible rfl)
    (try simp only [Act.put, List.getElem_toArray, List.getElem_cons_zero, List.setIfInBounds_toArray, List.set_cons_zero, List.set_cons_succ])
    refine wpAnyH_take1 (i := 1) (oi := _) (v := ?_) (by kernel_rfl) rfl (by kernel_rfl) (fun _ _ _ h => h) (Or.inl ⟨by rfl, ?_⟩) (by assumption) ?_
    rotate_left 1
    · intro w hSw; (try dsimp only at hSw); go_simp; (with_reducible rfl)
    (try simp only [Act.put, List.getElem_toArray, List.getElem_cons_zero, List.getElem_cons_succ, List.setIfInBounds_toArray, List.set_cons_zero, List.set_cons_succ])
    refine wpAnyH_take1 (i := 2) (oi := _) (v := ?_) (by kernel_rfl) rfl (by kernel_rfl) (fun _ _ _ h => h) (Or.inl ⟨by rfl, ?_⟩) (by assumption) ?_
    rotate_left 1
    · intro w hSw; (try dsimp only at hSw); go_simp; (with_reducible rfl)
    (try simp only [Act.put, List.getElem_toArray, List.getElem_cons_zero, List.getElem_cons_succ, List.setIfInBounds_toArray, List.set_cons_zero, List.set_cons_succ])
    refine wpAnyH_take1 (i := 3) (oi := _) (v := ?_) (by kernel_rfl) rfl (by kernel_rfl) (fun _ _ _ h => h) (Or.inl ⟨by rfl, ?_⟩) (by assumption) ?_
    rotate_left 1
    · intro w hSw; (try dsimp only at hSw); go_simp; (with_reducible rfl)
    (try simp only [Act.put, List.getElem_toArray, List.getElem_cons_zero, List.getElem_cons_succ, List.setIfInBounds_toArray, List.set_cons_zero, List.set_cons_succ])
    refine wpAnyH_take1 (i := 4) (oi := _) (v := ?_) (by kernel_rfl) rfl (by kernel_rfl) (fun _ _ _ h => h) (Or.inl ⟨by rfl, ?_⟩) (by assumption) ?_
    rotate_left 1
    · intro w hSw; (try dsimp only at hSw); go_simp; (with_reducible rfl)
    (try simp only [Act.put, List.getElem_toArray, List.getElem_cons_zero, List.getElem_cons_succ, List.setIfInBounds_toArray, List.set_cons_zero, List.set_cons_succ])
    refine wpAnyH_take1 (i := 5) (oi := _) (v := ?_) (by kernel_rfl) rfl (by kernel_rfl) (fun _ _ _ h => h) (Or.inl ⟨by rfl, ?_⟩) (by assumption) ?_
    rotate_left 1
    · intro w hSw; (try dsimp only at hSw); go_simp; (with_reducible rfl)
    (try simp only [Act.put, List.getElem_toArray, List.getElem_cons_zero, List.getElem_cons_succ, List.setIfInBounds_toArray, List.set_cons_zero, List.set_cons_succ])
    refine wpAnyH_take1 (i := 6) (oi := _) (v := ?_) (by kernel_rfl) rfl (by kernel_rfl) (fun _ _ _ h => h) (Or.inl ⟨by rfl, ?_⟩) (by assumption) ?_
    rotate_left 1
    · intro w hSw; (try dsimp only at hSw); go_simp; (with_reducible rfl)
    (try simp only [Act.put, List.getElem_toArray, List.getElem_cons_zero, List.getElem_cons_succ, List.setIfInBounds_toArray, List.set_cons_zero, List.set_cons_succ])
    refine wpAnyH_take1 (i := 7) (oi := _) (v := ?_) (by kernel_rfl) rfl (by kernel_rfl) (fun _ _ _ h => h) (Or.inl ⟨by rfl, ?_⟩) (by assumption) ?_
    rotate_left 1
    · intro w hSw; (try dsimp only at hSw); go_simp; (with_reducible rfl)
    (try simp only [Act.put, List.getElem_toArray, List.getElem_cons_zero, List.getElem_cons_succ, List.setIfInBounds_toArray, List.set_cons_zero, List.set_cons_succ])
    refine wpAnyH_take1 (i := 8) (oi := _) (v := ?_) (by kernel_rfl) rfl (by kernel_rfl) (fun _ _ _ h => h) (Or.inl ⟨by rfl, ?_⟩) (by assumption) ?_
    rotate_left 1
    · intro w hSw; (try dsimp only at hSw); go_simp; (with_reducible rfl)
    (try simp only [Act.put, List.getElem_toArray, List.getElem_cons_zero, List.getElem_cons_succ, List.setIfInBounds_toArray, List.set_cons_zero, List.set_cons_succ])
    refine wpAnyH_take1 (i := 9) (oi := _) (v := ?_) (by kernel_rfl) rfl (by kernel_rfl) (fun _ _ _ h => h) (Or.inl ⟨by rfl, ?_⟩) (by assumption) ?_
    rotate_left 1
    · intro w hSw; (try dsimp only at hSw); go_simp; (with_reducible rfl)
    (try simp only [Act.put, List.getElem_toArray, List.getElem_cons_zero, List.getElem_cons_succ, List.setIfInBounds_toArray, List.set_cons_zero, List.set_cons_succ])
    refine wpAnyH_take1 (i := 10) (oi := _) (v := ?_) (by kernel_rfl) rfl (by kernel_rfl) (fun _ _ _ h => h) (Or.inl ⟨by rfl, ?_⟩) (by assumption) ?_
    rotate_left 1
    · intro w hSw; (try dsimp only at hSw); go_simp; (with_reducible rfl)
    (try simp only [Act.put, List.getElem_toArray, List.getElem_cons_zero, List.getElem_cons_succ, List.setIfInBounds_toArray, List.set_cons_zero, List.set_cons_succ])
    refine wpAnyH_one (i := 11) (by kernel_rfl) rfl (by rfl) fun K hK => ?_
    go_simp
    refine (h1.out _ Seq.way).mono ?_
    rintro e y3 ⟨rfl, hy3⟩
    have HY3 := below_step hy3 (Seq.way : Below w1.heap.size w1 _)
    have zy3 := HY3.size
    (try dsimp only)
    clear hHeld
    refine hK.out _ _ (Kq HY3).out fun hHeld => ?_
    clear hK K
    (try simp only [Act.put, List.getElem_toArray, List.getElem_cons_zero, List.getElem_cons_succ, List.setIfInBounds_toArray, List.set_cons_zero, List.set_cons_succ])
    refine wpAnyH_take1 (i := 12) (oi := _) (v := ?_) (by kernel_rfl) rfl (by kernel_rfl) (fun _ _ _ h => h) (Or.inl ⟨by rfl, ?_⟩) (by assumption) ?_
    rotate_left 1
    · intro w hSw; (try dsimp only at hSw); go_simp; (with_reducible rfl)
    (try simp only [Act.put, List.getElem_toArray, List.getElem_cons_zero, List.getElem_cons_succ, List.setIfInBounds_toArray, List.set_cons_zero, List.set_cons_succ])
    refine wpAnyH_take1 (i := 13) (oi := _) (v := ?_) (by kernel_rfl) rfl (by kernel_rfl) (fun _ _ _ h => h) (Or.inl ⟨by rfl, ?_⟩) (by assumption) ?_
    rotate_left 1
    · intro w hSw; (try dsimp only at hSw); go_simp; (with_reducible rfl)
    (try simp only [Act.put, List.getElem_toArray, List.getElem_cons_zero, List.getElem_cons_succ, List.setIfInBounds_toArray, List.set_cons_zero, List.set_cons_succ])
    refine wpAnyH_take1 (i := 14) (oi := _) (v := ?_) (by kernel_rfl) rfl (by kernel_rfl) (fun _ _ _ h => h) (Or.inl ⟨by rfl, ?_⟩) (by assumption) ?_
    rotate_left 1
    · intro w hSw; (try dsimp only at hSw); go_simp; (with_reducible rfl)
    (try simp only [Act.put, List.getElem_toArray, List.getElem_cons_zero, List.getElem_cons_succ, List.setIfInBounds_toArray, List.set_cons_zero, List.set_cons_succ])
    refine wpAnyH_done (by kernel_rfl) ?_ _
    refine NoPanic.normal ?_
    have HF := Lib.hid (below_step HY3 HB1.out)
    go_wp2_with fail
    go_ret
    exact ⟨ret_bool (by rw [Hd.out]), below_step HF.out HBw.out⟩

/-! ### What is put behind one another, sorted -/
theorem flat_nodup {p : List Nat → Bool} : ∀ {C : List (List Nat)}, C.flatten.Nodup → (C.filter p).flatten.Nodup
  | [], _ => by simp
  | c :: C, h => by
    rw [List.flatten_cons, List.nodup_append] at h
    have ih := flat_nodup (p := p) h.2.1
    by_cases hp : p c = true
    · rw [List.filter_cons_of_pos hp, List.flatten_cons, List.nodup_append]
      refine ⟨h.1, ih, fun a ha b hb e => h.2.2 a ha b ?_ e⟩
      obtain ⟨d, hd, hb⟩ := List.mem_flatten.1 hb
      exact List.mem_flatten.2 ⟨d, (List.mem_filter.1 hd).1, hb⟩
    · rw [List.filter_cons_of_neg hp]; exact ih
theorem natsZ_nodup {l : List Nat} (h : l.Nodup) : (natsZ l).Nodup := by
  unfold natsZ
  exact List.Pairwise.map _ (fun a b h e => h (by omega)) h
theorem natsZ_rise {f : Nat → Bool} {k : Nat} : (natsZ (fltN f k)).Pairwise (· ≤ ·) := by
  unfold natsZ fltN
  exact List.Pairwise.map (R := fun a b => a < b) _ (fun a b h => by omega) (List.pairwise_lt_range.filter _)
theorem sort_flt {l : List Nat} {f : Nat → Bool} {k : Nat} (hn : l.Nodup) (hm : ∀ x, x ∈ l ↔ x ∈ fltN f k) : sortL (natsZ l) = natsZ (fltN f k) := by
  refine List.Perm.eq_of_pairwise (le := fun a b : Int => a ≤ b) (fun a b _ _ h1 h2 => by omega) (sortL_le _) natsZ_rise ?_
  refine (sortL_perm _).trans ?_
  refine (List.perm_ext_iff_of_nodup (natsZ_nodup hn) (natsZ_nodup (by unfold fltN; exact List.nodup_range.filter _))).2 fun a => ?_
  unfold natsZ
  rw [List.mem_map, List.mem_map]
  exact ⟨fun ⟨x, hx, e⟩ => ⟨x, (hm x).1 hx, e⟩, fun ⟨x, hx, e⟩ => ⟨x, (hm x).2 hx, e⟩⟩
def anwC (r now : Res) (t : List Int) (c : List Nat) : Bool := anewB r now t (natsZ c)
theorem again_of {r now : Res} {c : List (List Cell)} (hrg : RngR r) : sortL (natsZ ((cmpsL r).filter (anwC r now (natsZ (touchL r c)))).flatten) = natsZ (againL r now c) := by
  have hok := comps_all (edgL_gr hrg)
  have hg := edgL_gr hrg
  have hnd : (cmpsL r).flatten.Nodup := by have := hok.nd; rw [List.nil_append] at this; exact this
  unfold againL
  refine sort_flt (flat_nodup hnd) fun x => ?_
  rw [List.mem_flatten, fltN_mem]
  constructor
  · rintro ⟨d, hd, hx⟩
    obtain ⟨h1, h2⟩ := List.mem_filter.1 hd
    obtain ⟨i, hi, -, rfl⟩ := hok.of d h1
    refine ⟨compL_lt hx, ?_⟩
    unfold agnB cmpoL
    rw [hg.eq hi hx]
    exact h2
  · rintro ⟨hx, h2⟩
    rcases hok.all x hx with h | ⟨d, hd, hxd⟩
    · cases h
    · refine ⟨d, List.mem_filter.2 ⟨hd, ?_⟩, hxd⟩
      obtain ⟨i, hi, -, rfl⟩ := hok.of d hd
      unfold agnB cmpoL at h2
      rw [hg.eq hi hxd] at h2
      exact h2
theorem flt_snoc {p : List Nat → Bool} {C : List (List Nat)} {k : Nat} (hk : k < C.length) : ((C.take (k + 1)).filter p).flatten = ((C.take k).filter p).flatten ++ (if p C[k] = true then C[k] else []) := by
  rw [List.take_succ_eq_append_getElem hk, List.filter_append, List.flatten_append]
  congr 1
  by_cases h : p C[k] = true
  · rw [List.filter_cons_of_pos h, if_pos h]; simp
  · rw [List.filter_cons_of_neg h, if_neg h]; simp
theorem flat_len_le {p : List Nat → Bool} {C : List (List Nat)} (k : Nat) : ((C.take k).filter p).flatten.length ≤ C.flatten.length := by
  have h1 : ∀ (D : List (List Nat)), (D.filter p).flatten.length ≤ D.flatten.length := fun D => by
    induction D with
    | nil => simp
    | cons d D ih =>
      by_cases h : p d = true
      · rw [List.filter_cons_of_pos h, List.flatten_cons, List.flatten_cons, List.length_append, List.length_append]; omega
      · rw [List.filter_cons_of_neg h, List.flatten_cons, List.length_append]; omega
  have h2 : (C.take k).flatten.length ≤ C.flatten.length := by
    conv => rhs; rw [← List.take_append_drop k C, List.flatten_append, List.length_append]
    omega
  exact Nat.le_trans (h1 _) h2
theorem len_flat {c : List Nat} : ∀ {C : List (List Nat)}, c ∈ C → c.length ≤ C.flatten.length
  | [], h => absurd h List.not_mem_nil
  | d :: C, h => by
    rw [List.flatten_cons, List.length_append]
    rcases List.mem_cons.1 h with rfl | h
    · omega
    · have := len_flat h; omega
/-- How far the links of one have come. -/
def lnkTo (r now : Res) (t c : List Int) (j : Nat) : Bool := meetB c t || (r.lks.take j).any (lnkAnew r now c)
theorem lnkTo_zero (r now : Res) (t c : List Int) : lnkTo r now t c 0 = meetB c t := by unfold lnkTo; simp
theorem lnkTo_succ {r now : Res} {t c : List Int} {j : Nat} (h : j < r.lks.length) : lnkTo r now t c (j + 1) = (lnkTo r now t c j || lnkAnew r now c r.lks[j]) := by
  unfold lnkTo
  rw [List.take_succ_eq_append_getElem h, List.any_append, Bool.or_assoc]
  simp
theorem lnkTo_all {r now : Res} {t c : List Int} {j : Nat} (h : r.lks.length ≤ j) : lnkTo r now t c j = anewB r now t c := by
  unfold lnkTo anewB; rw [List.take_of_length_le h]
theorem ContainsI_ret {S : Nat → Prop} {w : World} {v : Value} {l : List Int} {n : Int} (hl : Seq intE S w v l) :
    Calls Try.prog 28 #[v, .int .i64 n] w (RetV (.bool (decide (n ∈ l))) w) := (ContainsI_spec hl).mono fun _ _ ⟨h1, h2⟩ => ⟨h1, h2 ▸ Below.refl _ _⟩
set_option maxRecDepth 100000 in
theorem agn1_spec {S : Nat → Prop} {w : World} {x : Int} {t : List Int} {bt : Nat} {pa : Option Addr} {pc : Nat} (_lt : bt < w.heap.size) (ct : w.cell? ⟨bt, 0, none⟩ = some (.slice pa t.length pc)) (ht : Seq intE S w (.slice pa t.length pc) t) :
    Calls Try.prog 27 #[.int .i64 x, .pointer (some ⟨bt, 0, none⟩)] w (RetV (.bool (decide (x ∈ t))) w) := by
  have HT := Lib.hid ht
  clear ht
  go_enter Try.func27, Try.ntmps27
  go_wp2_with fail
  refine (ContainsI_spec HT.out).mono ?_
  rintro e _ ⟨rfl, rfl⟩
  go_wp2_with fail
  go_ret
  exact ⟨rfl, Below.refl _ _⟩
end
section
open Go Go.RowKit

set_option maxHeartbeats 12800000 in
set_option maxRecDepth 100000 in
theorem AgainP_spec {S T S1 : Nat → Prop} {w : World} {v u x : Value} {r now : Res} {c : List (List Cell)} (hr : ResV S w v r) (hn : ResV T w u now) (hc : Seq (seqE cellE) S1 w x c) (hro : ResOK r) (hcr : ∀ t ∈ r.tabs, RightT t.call) (hok : ChgOK c) :
    Calls Try.prog 16 #[v, u, x] w (Ret (fun o w' => Seq intE (fun b => w.heap.size ≤ b) w' o (natsZ (againL r now c))) w) := by
  obtain ⟨ta, tc, ia, il, ic, la, lc, rfl, hT, hE⟩ := hr
  obtain ⟨na, nc, ja, jl, jc, ma, mc, rfl, hN, hM⟩ := hn
  obtain ⟨W1, hW1⟩ : ∃ W, W = w.alloc (.cells #[.slice ta r.tabs.length tc, .slice ia il ic, .slice la r.lks.length lc] 26) := ⟨_, rfl⟩
  have HBW1 := Lib.hid (show Below w.heap.size w W1 by rw [hW1]; exact Seq.way)
  have HW1 := Lib.hid hW1
  have hsW1 : W1.heap.size = w.heap.size + 1 := by rw [hW1]; simp
  obtain ⟨b1t, hb1t⟩ : ∃ b, b = w.heap.size := ⟨_, rfl⟩
  have Hb1t := Lib.hid hb1t
  have HRW1 := Lib.hid (show RowA 26 W1 b1t [.slice ta r.tabs.length tc, .slice ia il ic, .slice la r.lks.length lc] by rw [hW1, show b1t = w.heap.size by omega]; exact Row.new w [_, _, _] _ rfl)
  have K1 := fun {W' : World} (h : Below W1.heap.size W1 W') => Lib.hid (show W'.cell? ⟨b1t, 0, none⟩ = some (.slice ta r.tabs.length tc) ∧ W'.cell? ⟨b1t, 1, none⟩ = some (.slice ia il ic) ∧ W'.cell? ⟨b1t, 2, none⟩ = some (.slice la r.lks.length lc) ∧ b1t < W'.heap.size from
    ⟨(HRW1.out.at h).row.cell (j := 0) (by simp), (HRW1.out.at h).row.cell (j := 1) (by simp), (HRW1.out.at h).row.cell (j := 2) (by simp), (HRW1.out.at h).row.lt⟩)
  obtain ⟨W, hW⟩ : ∃ W, W = W1.alloc (.cells #[.slice na now.tabs.length nc, .slice ja jl jc, .slice ma now.lks.length mc] 26) := ⟨_, rfl⟩
  have HBW := Lib.hid (show Below W1.heap.size W1 W by rw [hW]; exact Seq.way)
  have HW := Lib.hid hW
  have hsW : W.heap.size = W1.heap.size + 1 := by rw [hW]; simp
  obtain ⟨bt, hbt⟩ : ∃ b, b = w.heap.size + 1 := ⟨_, rfl⟩
  have Hbt := Lib.hid hbt
  have HRW := Lib.hid (show RowA 26 W bt [.slice na now.tabs.length nc, .slice ja jl jc, .slice ma now.lks.length mc] by rw [hW, show bt = W1.heap.size by omega]; exact Row.new W1 [_, _, _] _ rfl)
  have Kn := fun {W' : World} (h : Below W.heap.size W W') => Lib.hid (show W'.cell? ⟨bt, 0, none⟩ = some (.slice na now.tabs.length nc) ∧ W'.cell? ⟨bt, 1, none⟩ = some (.slice ja jl jc) ∧ W'.cell? ⟨bt, 2, none⟩ = some (.slice ma now.lks.length mc) ∧ bt < W'.heap.size from
    ⟨(HRW.out.at h).row.cell (j := 0) (by simp), (HRW.out.at h).row.cell (j := 1) (by simp), (HRW.out.at h).row.cell (j := 2) (by simp), (HRW.out.at h).row.lt⟩)
  have HBw := Lib.hid (below_step HBW.out HBW1.out)
  have HT := Lib.hid (hT.at HBw.out)
  have HE := Lib.hid (hE.at HBw.out)
  have HN := Lib.hid (hN.at HBw.out)
  have HM := Lib.hid (hM.at HBw.out)
  have HC := Lib.hid (hc.at HBw.out)
  have hrl := hro.tl
  have Hro := Lib.hid hro
  have Hok := Lib.hid hok
  have Hcr := Lib.hid hcr
  obtain ⟨xa, xc, rfl⟩ := hc.shape
  clear hT hE hN hM hc hro hok hcr hW1 hW hb1t hbt hsW1 hsW
  go_enter Try.func16, Try.ntmps16
  go_upto_region 1 with fail
  rw [← HW1.out, ← HW.out, ← Hbt.out, ← Hb1t.out]
  have Kt := fun {W' : World} (h : Below W.heap.size W W') => K1 (below_step h HBW.out)
  obtain ⟨n0, n1, n2, nl⟩ := (Kn (Below.refl _ W)).out
  obtain ⟨r0, r1, r2, rl⟩ := (Kt (Below.refl _ W)).out
  go_wp2_with fail
  refine (TouchedP_spec (ResV.mk HT.out HE.out) HC.out Hro.out.tl Hcr.out Hok.out).mono ?_
  rintro e w1 ⟨v1, rfl, hb1, hs1⟩
  have Hdef := Lib.hid (again_of (r := r) (now := now) (c := c) Hro.out.rg)
  have htl := touchL_len r c
  obtain ⟨t, ht⟩ : ∃ t, t = natsZ (touchL r c) := ⟨_, rfl⟩
  rw [← ht] at hs1 Hdef htl
  obtain ⟨ua, uc, rfl⟩ := hs1.shape
  obtain ⟨W2, hW2⟩ : ∃ W, W = w1.alloc (.cells #[.slice ua t.length uc] 31) := ⟨_, rfl⟩
  have HBW2 := Lib.hid (show Below w1.heap.size w1 W2 by rw [hW2]; exact Seq.way)
  have HW2 := Lib.hid hW2
  have hsW2 : W2.heap.size = w1.heap.size + 1 := by rw [hW2]; simp
  obtain ⟨bu, hbu⟩ : ∃ b, b = w1.heap.size := ⟨_, rfl⟩
  have Hbu := Lib.hid hbu
  have HRW2 := Lib.hid (show RowA 31 W2 bu [.slice ua t.length uc] by rw [hW2, show bu = w1.heap.size by omega]; exact Row.new w1 [_] _ rfl)
  have Ku := fun {W' : World} (h : Below W2.heap.size W2 W') => Lib.hid (show W'.cell? ⟨bu, 0, none⟩ = some (.slice ua t.length uc) ∧ bu < W'.heap.size from
    ⟨(HRW2.out.at h).row.cell (j := 0) (by simp), (HRW2.out.at h).row.lt⟩)

  have HB1 := Lib.hid hb1
  have HB2 := Lib.hid (below_step HBW2.out hb1)
  have HU := Lib.hid (hs1.any.at HBW2.out)
  clear hs1 hb1 ht r0 r1 r2 rl n0 n1 n2 nl
  go_upto_region 2 with fail
  rw [← HW2.out, ← Hbu.out]
  have HB2w := Lib.hid (below_step HBW2.out HB1.out)
  have Ku2 := fun {W' : World} (h : Below W2.heap.size W2 W') => Ku h
  obtain ⟨n0, n1, n2, nl⟩ := (Kn HB2w.out).out
  obtain ⟨r0, r1, r2, rl⟩ := (Kt HB2w.out).out
  clear hsW2 hbu hW2
  go_wp2_with fail
  refine (CompsP_spec (ResV.mk (HT.out.at HB2w.out) (HE.out.at HB2w.out)) Hro.out).mono ?_
  rintro e w3 ⟨v3, rfl, hb3, hs3⟩
  have hfl := Lib.hid (comps_len (comps_all (edgL_gr Hro.out.rg)))
  rw [show compsL (edgL r) r.tabs.length = cmpsL r from rfl] at hfl
  obtain ⟨C, hCC⟩ : ∃ C, C = cmpsL r := ⟨_, rfl⟩
  rw [← hCC] at hs3 hfl Hdef
  obtain ⟨pf, hpf⟩ : ∃ p, p = anwC r now t := ⟨_, rfl⟩
  rw [← hpf] at Hdef
  have Hpf := Lib.hid (fun c => show anewB r now t (natsZ c) = pf c by rw [hpf]; rfl)
  have hml : (C.map natsZ).length = C.length := List.length_map ..
  have hcl : C.length ≤ 140737488355328 := by obtain ⟨_, _, _, _, _, h, _⟩ := hs3; rw [hml] at h; exact h
  obtain ⟨da, dc, hdv⟩ := hs3.shape
  rw [hml] at hdv
  subst hdv
  have HD := Lib.hid hs3.bnd
  have HB3 := Lib.hid hb3
  have HB3w := Lib.hid (below_step hb3 HB2w.out)
  clear hs3 hb3 hCC hpf r0 r1 r2 rl n0 n1 n2 nl
  go_wp2_with fail
  have hown0 := Lib.hid (show Own intE (fun _ => False) w3.heap.size 3 w3 (.slice none 0 0) (natsZ ((C.take 0).filter pf).flatten) from Own.nil _ _ _ _ _)
  go_loopw [8, 20] (fun o i wz => ∃ k : Nat, k ≤ C.length ∧ i = .int .i64 k ∧ Hid (Own intE (fun _ => False) w3.heap.size 3 wz o (natsZ ((C.take k).filter pf).flatten)) ∧ Hid (Below w3.heap.size w3 wz)) (fun _ i _ => C.length - (intOf i).toNat)
  case atStart => exact ⟨0, Nat.zero_le _, rfl, hown0, Lib.hid (Below.refl _ _)⟩
  case round =>
    obtain ⟨k, hk, rfl, hown, hbz⟩ := hrel
    obtain ⟨wo, rfl⟩ : ∃ Z, Z = wr := ⟨_, rfl⟩
    have hzr := hbz.out.size
    have hln := natsZ_len ((C.take k).filter pf).flatten
    have hln2 := flat_len_le (p := pf) (C := C) k
    rw [hfl.out] at hln2
    obtain ⟨oa, oc, hov, -, -⟩ := hown.out.shape
    subst hov
    by_cases hkl : k < C.length
    · obtain ⟨_, _, ee, -, -, -, -, x5⟩ := HD.out.at hbz.out
      simp only [Value.slice.injEq] at ee
      obtain ⟨rfl, -, rfl⟩ := ee
      obtain ⟨b1, o1, p1, n1, rfl, -, l1, c0, hX⟩ := x5.seq (k := k) (by rw [hml]; exact hkl)
      have hge : (C.map natsZ)[k]'(by rw [hml]; exact hkl) = natsZ C[k] := List.getElem_map ..
      rw [hge] at c0 hX
      have hst := Lib.hid (flt_snoc (p := pf) hkl)
      have hpc := Lib.hid (Hpf.out C[k])
      have hcsub : C[k].length ≤ C.flatten.length := len_flat (List.getElem_mem hkl)
      rw [hfl.out] at hcsub
      obtain ⟨cm, hcm⟩ : ∃ x, x = C[k] := ⟨_, rfl⟩
      rw [← hcm] at c0 hX hst hpc hcsub
      have hc1 := natsZ_len cm
      rw [hc1] at c0 hX
      have HX := Lib.hid hX
      have hkI : (k : Int) < (C.length : Int) := by omega
      have hk0 : (0 : Int) ≤ (k : Int) := by omega
      have hbw := Lib.hid (below_step hbz.out HB3w.out)
      have hb2 := Lib.hid (below_step hbz.out HB3.out)
      have hcall := Lib.hid (agn_has (bt := bu) (p := fun x => decide (x ∈ t)) HX.out fun W' U u' hW' x hx hu => by
        obtain ⟨rfl, -⟩ := hu
        exact agn1_spec (Ku2 (below_step hW' hb2.out)).out.2 (Ku2 (below_step hW' hb2.out)).out.1 (HU.out.at (below_step hW' hb2.out)))
      rw [show (natsZ cm).any (fun x => decide (x ∈ t)) = meetB (natsZ cm) t from rfl, ← lnkTo_zero r now t (natsZ cm)] at hcall
      have Hml := Lib.hid hml
      clear hcm hX x5 hge hc1 hln hml
      go_wp2_with fail
      refine hcall.out.mono ?_
      rintro e w5 ⟨rfl, hb5⟩
      have HB5 := Lib.hid (below_step hb5 hbw.out)
      have HB5o := Lib.hid hb5
      have HX5 := Lib.hid (HX.out.at hb5)
      clear hb5 hcall c0
      obtain ⟨n0, n1, n2, nl⟩ := (Kn HB5.out).out
      obtain ⟨r0, r1, r2, rl⟩ := (Kt HB5.out).out
      go_wp2_with fail
      have hlk : r.lks.length ≤ 140737488355328 := by have := Hro.out.ll; omega
      go_loopw [11, 30] (fun a i wy => ∃ j : Nat, j ≤ r.lks.length ∧ i = .int .i64 j ∧ a = .bool (lnkTo r now t (natsZ cm) j) ∧ Hid (Below w5.heap.size w5 wy)) (fun _ i _ => r.lks.length - (intOf i).toNat)
      case atStart => exact ⟨0, Nat.zero_le _, rfl, rfl, Lib.hid (Below.refl _ _)⟩
      case round =>
        obtain ⟨j, hj, rfl, rfl, hby⟩ := hrel
        have hbr := Lib.hid (below_step hby.out HB5.out)
        clear r0 r1 r2 rl n0 n1 n2 nl
        obtain ⟨n0, n1, n2, nl⟩ := (Kn hbr.out).out
        obtain ⟨r0, r1, r2, rl⟩ := (Kt hbr.out).out
        by_cases hjl : j < r.lks.length
        · obtain ⟨_, _, ee, -, -, -, -, x5⟩ := HE.out.at hbr.out
          simp only [Value.slice.injEq, true_and] at ee
          obtain ⟨rfl, rfl⟩ := ee
          obtain ⟨b1, o1, rfl, -, l1, c0, c1, ok1, ok2⟩ := x5.edg hjl
          have hsu := Lib.hid (lnkTo_succ (r := r) (now := now) (t := t) (c := natsZ cm) hjl)
          obtain ⟨q1, q2, q3, q4⟩ := Hro.out.rg _ (List.getElem_mem hjl)
          have hqd := Lib.hid (show lnkAnew r now (natsZ cm) r.lks[j] = (decide (r.lks[j].1 ∈ natsZ cm) && !decide (r.lks[j].2 ∈ natsZ cm) && otherAt r now r.lks[j].2) from rfl)
          obtain ⟨q, hq⟩ : ∃ q, q = lnkAnew r now (natsZ cm) r.lks[j] := ⟨_, rfl⟩
          rw [← hq] at hsu hqd
          obtain ⟨⟨ea, eb⟩, hee⟩ : ∃ e, e = r.lks[j] := ⟨_, rfl⟩
          simp only [← hee] at c0 c1 q1 q2 q3 q4 hqd
          have hjI : (j : Int) < (r.lks.length : Int) := by omega
          have hj0 : (0 : Int) ≤ (j : Int) := by omega
          obtain ⟨lt0, hlt0⟩ : ∃ b, b = lnkTo r now t (natsZ cm) j := ⟨_, rfl⟩
          rw [← hlt0] at hsu ⊢
          clear hee hq x5 ok1 ok2 hlt0
          go_upto_region 10 with fail
          obtain ⟨nb, rfl⟩ : ∃ nb : Nat, eb = (nb : Int) := ⟨eb.toNat, by omega⟩
          obtain ⟨W4, hW4⟩ : ∃ W, W = wr.alloc (.cells #[.int .i64 ea, .int .i64 (nb : Int)] 35) := ⟨_, rfl⟩
          have HBW4 := Lib.hid (show Below wr.heap.size wr W4 by rw [hW4]; exact Seq.way)
          have HW4 := Lib.hid hW4
          have hsW4 : W4.heap.size = wr.heap.size + 1 := by rw [hW4]; simp
          obtain ⟨bq, hbq⟩ : ∃ b, b = wr.heap.size := ⟨_, rfl⟩
          have Hbq := Lib.hid hbq
          have HRW4 := Lib.hid (show RowA 35 W4 bq [.int .i64 ea, .int .i64 (nb : Int)] by rw [hW4, show bq = wr.heap.size by omega]; exact Row.new wr [_, _] _ rfl)
          have Kb := fun {W' : World} (h : Below W4.heap.size W4 W') => Lib.hid (show W'.cell? ⟨bq, 0, none⟩ = some (.int .i64 ea) ∧ W'.cell? ⟨bq, 1, none⟩ = some (.int .i64 (nb : Int)) ∧ bq < W'.heap.size from
            ⟨(HRW4.out.at h).row.cell (j := 0) (by simp), (HRW4.out.at h).row.cell (j := 1) (by simp), (HRW4.out.at h).row.lt⟩)
          rw [← HW4.out, ← Hbq.out]
          have HbW := Lib.hid (below_step HBW4.out hbr.out)
          obtain ⟨_, _, ee, -, -, -, -, x6⟩ := HT.out.at HbW.out
          simp only [Value.slice.injEq, true_and] at ee
          obtain ⟨rfl, rfl⟩ := ee
          obtain ⟨b2, o2, ca, cc, aa, ac, rfl, -, l2, f0, f1, hTC, hTA⟩ := x6.tab (k := nb) (by omega)
          have hat := Lib.hid (otherAt_at (r := r) (now := now) (n := nb) (by omega))
          have HTC := Lib.hid hTC
          have HTA := Lib.hid hTA
          obtain ⟨tt, htt⟩ : ∃ x, x = r.tabs[nb]'(by omega) := ⟨_, rfl⟩
          rw [← htt] at f0 f1 HTC HTA hat
          have h3 := Lib.hid (fun (W' : World) (h : Below W4.heap.size W4 W') => otherP_spec (w := W') (t := tt) (r := now) ⟨ca, cc, aa, ac, rfl, HTC.out.at h, HTA.out.at h⟩ (ResV.mk (ia := ja) (il := jl) (ic := jc) (HN.out.at (below_step h HbW.out)) (HM.out.at (below_step h HbW.out))))
          have HXw := Lib.hid (HX5.out.at (below_step HBW4.out hby.out))
          have h1 := Lib.hid (fun (W' : World) (h : Below W4.heap.size W4 W') => ContainsI_ret (w := W') (n := ea) (HXw.out.at h))
          have h2 := Lib.hid (fun (W' : World) (h : Below W4.heap.size W4 W') => ContainsI_ret (w := W') (n := (nb : Int)) (HXw.out.at h))
          have hnI : (nb : Int) < (r.tabs.length : Int) := q4
          have hn0 : (0 : Int) ≤ (nb : Int) := by omega
          have Kq := fun {W' : World} (h : Below W4.heap.size W4 W') => Lib.hid (show W'.cell? ⟨bq, 0, none⟩ = some (.int .i64 ea) ∧ W'.cell? ⟨bq, 1, none⟩ = some (.int .i64 (nb : Int)) ∧ W'.cell? ⟨b1t, 0, none⟩ = some (.slice (some ⟨b2, o2, none⟩) r.tabs.length tc) ∧ W'.cell? ⟨b2, o2 + nb * 2, none⟩ = some (.slice ca tt.call.length cc) ∧ W'.cell? ⟨b2, o2 + nb * 2 + 1, none⟩ = some (.slice aa tt.ans.length ac) ∧ W'.cell? ⟨bt, 0, none⟩ = some (.slice na now.tabs.length nc) ∧ W'.cell? ⟨bt, 1, none⟩ = some (.slice ja jl jc) ∧ W'.cell? ⟨bt, 2, none⟩ = some (.slice ma now.lks.length mc) from
            ⟨(Kb h).out.1, (Kb h).out.2.1, ((Kt (below_step h HbW.out)).out).1, (h.cell (p := ⟨b2, o2 + nb * 2, none⟩) l2).trans f0, (h.cell (p := ⟨b2, o2 + nb * 2 + 1, none⟩) l2).trans f1, ((Kn (below_step h HbW.out)).out).1, ((Kn (below_step h HbW.out)).out).2.1, ((Kn (below_step h HbW.out)).out).2.2.1⟩)
          obtain ⟨da1, hda⟩ : ∃ d, d = decide (ea ∈ natsZ cm) := ⟨_, rfl⟩
          obtain ⟨db1, hdb⟩ : ∃ d, d = decide ((nb : Int) ∈ natsZ cm) := ⟨_, rfl⟩
          obtain ⟨dc1, hdc⟩ : ∃ d, d = otherB tt now.tabs := ⟨_, rfl⟩
          rw [← hdb, hat.out, ← hdc, ← hda] at hqd
          rw [← hda] at h1
          rw [← hdb] at h2
          rw [← hdc] at h3
          clear hda hdb hdc hat htt x6 hTC hTA f0 f1 hsW4 hbq hW4 r0 r1 r2 rl n0 n1 n2 nl c0 c1 q1 q2 q3 q4
          cases da1 with
          | false =>
            have hz' := Lib.hid (show lnkTo r now t (natsZ cm) (j + 1) = lt0 by rw [hsu.out, hqd.out]; simp)
            clear hsu hqd h2 h3
            (try simp only [List.append_eq, List.cons_append, List.nil_append])
            refine wp_region_noPanic ?_
            refine wp_region_held_drew (S := fun w' => w'.cell? ⟨bq, 0, none⟩ = some (.int .i64 ea) ∧ w'.cell? ⟨bq, 1, none⟩ = some (.int .i64 (nb : Int)) ∧ w'.cell? ⟨b1t, 0, none⟩ = some (.slice (some ⟨b2, o2, none⟩) r.tabs.length tc) ∧ w'.cell? ⟨b2, o2 + nb * 2, none⟩ = some (.slice ca tt.call.length cc) ∧ w'.cell? ⟨b2, o2 + nb * 2 + 1, none⟩ = some (.slice aa tt.ans.length ac) ∧ w'.cell? ⟨bt, 0, none⟩ = some (.slice na now.tabs.length nc) ∧ w'.cell? ⟨bt, 1, none⟩ = some (.slice ja jl jc) ∧ w'.cell? ⟨bt, 2, none⟩ = some (.slice ma now.lks.length mc)) (by kernel_rfl) ?_ (fun hHeld => ?_)
            · exact (Kq (Below.drew (Below.refl _ _))).out
            refine wpAnyH_take1 (i := 0) (oi := _) (v := ?_) (by kernel_rfl) rfl (by kernel_rfl) (fun _ _ _ h => h) (Or.inl ⟨by rfl, ?_⟩) (by assumption) ?_
            rotate_left 1
            · intro w hSw; (try dsimp only at hSw); go_simp; (with_reducible rfl)
            (try simp only [Act.put, List.getElem_toArray, List.getElem_cons_zero, List.setIfInBounds_toArray, List.set_cons_zero, List.set_cons_succ])
            refine wpAnyH_take1 (i := 1) (oi := _) (v := ?_) (by kernel_rfl) rfl (by kernel_rfl) (fun _ _ _ h => h) (Or.inl ⟨by rfl, ?_⟩) (by assumption) ?_
            rotate_left 1
            · intro w hSw; (try dsimp only at hSw); go_simp; (with_reducible rfl)
            (try simp only [Act.put, List.getElem_toArray, List.getElem_cons_zero, List.getElem_cons_succ, List.setIfInBounds_toArray, List.set_cons_zero, List.set_cons_succ])
            refine wpAnyH_take1 (i := 2) (oi := _) (v := ?_) (by kernel_rfl) rfl (by kernel_rfl) (fun _ _ _ h => h) (Or.inl ⟨by rfl, ?_⟩) (by assumption) ?_
            rotate_left 1
            · intro w hSw; (try dsimp only at hSw); go_simp; (with_reducible rfl)
            (try simp only [Act.put, List.getElem_toArray, List.getElem_cons_zero, List.getElem_cons_succ, List.setIfInBounds_toArray, List.set_cons_zero, List.set_cons_succ])
            refine wpAnyH_one (i := 3) (by kernel_rfl) rfl (by rfl) fun K hK => ?_
            go_simp
            refine (h1.out _ Seq.way).mono ?_
            rintro e y1 ⟨rfl, hy1⟩
            have HY1 := below_step hy1 (Seq.way : Below W4.heap.size W4 _)
            have zy1 := HY1.size
            (try dsimp only)
            clear hHeld
            refine hK.out _ _ (Kq HY1).out fun hHeld => ?_
            clear hK K
            (try simp only [Act.put, List.getElem_toArray, List.getElem_cons_zero, List.getElem_cons_succ, List.setIfInBounds_toArray, List.set_cons_zero, List.set_cons_succ])
            refine wpAnyH_take1 (i := 4) (oi := _) (v := ?_) (by kernel_rfl) rfl (by kernel_rfl) (fun _ _ _ h => h) (Or.inl ⟨by rfl, ?_⟩) (by assumption) ?_
            rotate_left 1
            · intro w hSw; (try dsimp only at hSw); go_simp; (with_reducible rfl)
            (try simp only [Act.put, List.getElem_toArray, List.getElem_cons_zero, List.getElem_cons_succ, List.setIfInBounds_toArray, List.set_cons_zero, List.set_cons_succ])
            refine wpAnyH_take1 (i := 5) (oi := _) (v := undef) (by kernel_rfl) rfl (by kernel_rfl) (fun _ _ _ h => h) (Or.inr ⟨by rfl, rfl⟩) (by assumption) ?_
            (try simp only [Act.put, List.getElem_toArray, List.getElem_cons_zero, List.getElem_cons_succ, List.setIfInBounds_toArray, List.set_cons_zero, List.set_cons_succ])
            refine wpAnyH_take1 (i := 6) (oi := _) (v := undef) (by kernel_rfl) rfl (by kernel_rfl) (fun _ _ _ h => h) (Or.inr ⟨by rfl, rfl⟩) (by assumption) ?_
            (try simp only [Act.put, List.getElem_toArray, List.getElem_cons_zero, List.getElem_cons_succ, List.setIfInBounds_toArray, List.set_cons_zero, List.set_cons_succ])
            refine wpAnyH_take1 (i := 7) (oi := _) (v := undef) (by kernel_rfl) rfl (by kernel_rfl) (fun _ _ _ h => h) (Or.inr ⟨by rfl, rfl⟩) (by assumption) ?_
            (try simp only [Act.put, List.getElem_toArray, List.getElem_cons_zero, List.getElem_cons_succ, List.setIfInBounds_toArray, List.set_cons_zero, List.set_cons_succ])
            refine wpAnyH_take1 (i := 8) (oi := _) (v := undef) (by kernel_rfl) rfl (by kernel_rfl) (fun _ _ _ h => h) (Or.inr ⟨by rfl, rfl⟩) (by assumption) ?_
            (try simp only [Act.put, List.getElem_toArray, List.getElem_cons_zero, List.getElem_cons_succ, List.setIfInBounds_toArray, List.set_cons_zero, List.set_cons_succ])
            refine wpAnyH_take1 (i := 9) (oi := _) (v := undef) (by kernel_rfl) rfl (by kernel_rfl) (fun _ _ _ h => h) (Or.inr ⟨by rfl, rfl⟩) (by assumption) ?_
            (try simp only [Act.put, List.getElem_toArray, List.getElem_cons_zero, List.getElem_cons_succ, List.setIfInBounds_toArray, List.set_cons_zero, List.set_cons_succ])
            refine wpAnyH_take1 (i := 10) (oi := _) (v := ?_) (by kernel_rfl) rfl (by kernel_rfl) (fun _ _ _ h => h) (Or.inl ⟨by rfl, ?_⟩) (by assumption) ?_
            rotate_left 1
            · intro w hSw; (try dsimp only at hSw); go_simp; (with_reducible rfl)
            (try simp only [Act.put, List.getElem_toArray, List.getElem_cons_zero, List.getElem_cons_succ, List.setIfInBounds_toArray, List.set_cons_zero, List.set_cons_succ])
            refine wpAnyH_take1 (i := 11) (oi := _) (v := ?_) (by kernel_rfl) rfl (by kernel_rfl) (fun _ _ _ h => h) (Or.inl ⟨by rfl, ?_⟩) (by assumption) ?_
            rotate_left 1
            · intro w hSw; (try dsimp only at hSw); go_simp; (with_reducible rfl)
            (try simp only [Act.put, List.getElem_toArray, List.getElem_cons_zero, List.getElem_cons_succ, List.setIfInBounds_toArray, List.set_cons_zero, List.set_cons_succ])
            refine wpAnyH_take1 (i := 12) (oi := _) (v := undef) (by kernel_rfl) rfl (by kernel_rfl) (fun _ _ _ h => h) (Or.inr ⟨by rfl, rfl⟩) (by assumption) ?_
            (try simp only [Act.put, List.getElem_toArray, List.getElem_cons_zero, List.getElem_cons_succ, List.setIfInBounds_toArray, List.set_cons_zero, List.set_cons_succ])
            refine wpAnyH_take1 (i := 13) (oi := _) (v := undef) (by kernel_rfl) rfl (by kernel_rfl) (fun _ _ _ h => h) (Or.inr ⟨by rfl, rfl⟩) (by assumption) ?_
            (try simp only [Act.put, List.getElem_toArray, List.getElem_cons_zero, List.getElem_cons_succ, List.setIfInBounds_toArray, List.set_cons_zero, List.set_cons_succ])
            refine wpAnyH_take1 (i := 14) (oi := _) (v := undef) (by kernel_rfl) rfl (by kernel_rfl) (fun _ _ _ h => h) (Or.inr ⟨by rfl, rfl⟩) (by assumption) ?_
            (try simp only [Act.put, List.getElem_toArray, List.getElem_cons_zero, List.getElem_cons_succ, List.setIfInBounds_toArray, List.set_cons_zero, List.set_cons_succ])
            refine wpAnyH_take1 (i := 15) (oi := _) (v := undef) (by kernel_rfl) rfl (by kernel_rfl) (fun _ _ _ h => h) (Or.inr ⟨by rfl, rfl⟩) (by assumption) ?_
            (try simp only [Act.put, List.getElem_toArray, List.getElem_cons_zero, List.getElem_cons_succ, List.setIfInBounds_toArray, List.set_cons_zero, List.set_cons_succ])
            refine wpAnyH_take1 (i := 16) (oi := _) (v := undef) (by kernel_rfl) rfl (by kernel_rfl) (fun _ _ _ h => h) (Or.inr ⟨by rfl, rfl⟩) (by assumption) ?_
            (try simp only [Act.put, List.getElem_toArray, List.getElem_cons_zero, List.getElem_cons_succ, List.setIfInBounds_toArray, List.set_cons_zero, List.set_cons_succ])
            refine wpAnyH_take1 (i := 17) (oi := _) (v := undef) (by kernel_rfl) rfl (by kernel_rfl) (fun _ _ _ h => h) (Or.inr ⟨by rfl, rfl⟩) (by assumption) ?_
            (try simp only [Act.put, List.getElem_toArray, List.getElem_cons_zero, List.getElem_cons_succ, List.setIfInBounds_toArray, List.set_cons_zero, List.set_cons_succ])
            refine wpAnyH_take1 (i := 18) (oi := _) (v := undef) (by kernel_rfl) rfl (by kernel_rfl) (fun _ _ _ h => h) (Or.inr ⟨by rfl, rfl⟩) (by assumption) ?_
            (try simp only [Act.put, List.getElem_toArray, List.getElem_cons_zero, List.getElem_cons_succ, List.setIfInBounds_toArray, List.set_cons_zero, List.set_cons_succ])
            refine wpAnyH_take1 (i := 19) (oi := _) (v := undef) (by kernel_rfl) rfl (by kernel_rfl) (fun _ _ _ h => h) (Or.inr ⟨by rfl, rfl⟩) (by assumption) ?_
            (try simp only [Act.put, List.getElem_toArray, List.getElem_cons_zero, List.getElem_cons_succ, List.setIfInBounds_toArray, List.set_cons_zero, List.set_cons_succ])
            refine wpAnyH_take1 (i := 20) (oi := _) (v := ?_) (by kernel_rfl) rfl (by kernel_rfl) (fun _ _ _ h => h) (Or.inl ⟨by rfl, ?_⟩) (by assumption) ?_
            rotate_left 1
            · intro w hSw; (try dsimp only at hSw); go_simp; (with_reducible rfl)
            (try simp only [Act.put, List.getElem_toArray, List.getElem_cons_zero, List.getElem_cons_succ, List.setIfInBounds_toArray, List.set_cons_zero, List.set_cons_succ])
            refine wpAnyH_done (by kernel_rfl) ?_ _
            refine NoPanic.normal ?_
            have HF := Lib.hid (below_step (below_step HY1 HBW4.out) hby.out)
            go_wp2_with fail
            go_roundw
            case rel => exact ⟨j + 1, hjl, by go_num, by rw [hz'.out], HF⟩
            case measure => simp [intOf]; omega
          | true =>
            cases db1 with
            | true =>
              have hz' := Lib.hid (show lnkTo r now t (natsZ cm) (j + 1) = lt0 by rw [hsu.out, hqd.out]; simp)
              clear hsu hqd h3
              (try simp only [List.append_eq, List.cons_append, List.nil_append])
              refine wp_region_noPanic ?_
              refine wp_region_held_drew (S := fun w' => w'.cell? ⟨bq, 0, none⟩ = some (.int .i64 ea) ∧ w'.cell? ⟨bq, 1, none⟩ = some (.int .i64 (nb : Int)) ∧ w'.cell? ⟨b1t, 0, none⟩ = some (.slice (some ⟨b2, o2, none⟩) r.tabs.length tc) ∧ w'.cell? ⟨b2, o2 + nb * 2, none⟩ = some (.slice ca tt.call.length cc) ∧ w'.cell? ⟨b2, o2 + nb * 2 + 1, none⟩ = some (.slice aa tt.ans.length ac) ∧ w'.cell? ⟨bt, 0, none⟩ = some (.slice na now.tabs.length nc) ∧ w'.cell? ⟨bt, 1, none⟩ = some (.slice ja jl jc) ∧ w'.cell? ⟨bt, 2, none⟩ = some (.slice ma now.lks.length mc)) (by kernel_rfl) ?_ (fun hHeld => ?_)
              · exact (Kq (Below.drew (Below.refl _ _))).out
              refine wpAnyH_take1 (i := 0) (oi := _) (v := ?_) (by kernel_rfl) rfl (by kernel_rfl) (fun _ _ _ h => h) (Or.inl ⟨by rfl, ?_⟩) (by assumption) ?_
              rotate_left 1
              · intro w hSw; (try dsimp only at hSw); go_simp; (with_reducible rfl)
              (try simp only [Act.put, List.getElem_toArray, List.getElem_cons_zero, List.setIfInBounds_toArray, List.set_cons_zero, List.set_cons_succ])
              refine wpAnyH_take1 (i := 1) (oi := _) (v := ?_) (by kernel_rfl) rfl (by kernel_rfl) (fun _ _ _ h => h) (Or.inl ⟨by rfl, ?_⟩) (by assumption) ?_
              rotate_left 1
              · intro w hSw; (try dsimp only at hSw); go_simp; (with_reducible rfl)
              (try simp only [Act.put, List.getElem_toArray, List.getElem_cons_zero, List.getElem_cons_succ, List.setIfInBounds_toArray, List.set_cons_zero, List.set_cons_succ])
              refine wpAnyH_take1 (i := 2) (oi := _) (v := ?_) (by kernel_rfl) rfl (by kernel_rfl) (fun _ _ _ h => h) (Or.inl ⟨by rfl, ?_⟩) (by assumption) ?_
              rotate_left 1
              · intro w hSw; (try dsimp only at hSw); go_simp; (with_reducible rfl)
              (try simp only [Act.put, List.getElem_toArray, List.getElem_cons_zero, List.getElem_cons_succ, List.setIfInBounds_toArray, List.set_cons_zero, List.set_cons_succ])
              refine wpAnyH_one (i := 3) (by kernel_rfl) rfl (by rfl) fun K hK => ?_
              go_simp
              refine (h1.out _ Seq.way).mono ?_
              rintro e y1 ⟨rfl, hy1⟩
              have HY1 := below_step hy1 (Seq.way : Below W4.heap.size W4 _)
              have zy1 := HY1.size
              (try dsimp only)
              clear hHeld
              refine hK.out _ _ (Kq HY1).out fun hHeld => ?_
              clear hK K
              (try simp only [Act.put, List.getElem_toArray, List.getElem_cons_zero, List.getElem_cons_succ, List.setIfInBounds_toArray, List.set_cons_zero, List.set_cons_succ])
              refine wpAnyH_take1 (i := 4) (oi := _) (v := ?_) (by kernel_rfl) rfl (by kernel_rfl) (fun _ _ _ h => h) (Or.inl ⟨by rfl, ?_⟩) (by assumption) ?_
              rotate_left 1
              · intro w hSw; (try dsimp only at hSw); go_simp; (with_reducible rfl)
              (try simp only [Act.put, List.getElem_toArray, List.getElem_cons_zero, List.getElem_cons_succ, List.setIfInBounds_toArray, List.set_cons_zero, List.set_cons_succ])
              refine wpAnyH_take1 (i := 5) (oi := _) (v := ?_) (by kernel_rfl) rfl (by kernel_rfl) (fun _ _ _ h => h) (Or.inl ⟨by rfl, ?_⟩) (by assumption) ?_
              rotate_left 1
              · intro w hSw; (try dsimp only at hSw); go_simp; (with_reducible rfl)
              (try simp only [Act.put, List.getElem_toArray, List.getElem_cons_zero, List.getElem_cons_succ, List.setIfInBounds_toArray, List.set_cons_zero, List.set_cons_succ])
              refine wpAnyH_take1 (i := 6) (oi := _) (v := ?_) (by kernel_rfl) rfl (by kernel_rfl) (fun _ _ _ h => h) (Or.inl ⟨by rfl, ?_⟩) (by assumption) ?_
              rotate_left 1
              · intro w hSw; (try dsimp only at hSw); go_simp; (with_reducible rfl)
              (try simp only [Act.put, List.getElem_toArray, List.getElem_cons_zero, List.getElem_cons_succ, List.setIfInBounds_toArray, List.set_cons_zero, List.set_cons_succ])
              refine wpAnyH_take1 (i := 7) (oi := _) (v := ?_) (by kernel_rfl) rfl (by kernel_rfl) (fun _ _ _ h => h) (Or.inl ⟨by rfl, ?_⟩) (by assumption) ?_
              rotate_left 1
              · intro w hSw; (try dsimp only at hSw); go_simp; (with_reducible rfl)
              (try simp only [Act.put, List.getElem_toArray, List.getElem_cons_zero, List.getElem_cons_succ, List.setIfInBounds_toArray, List.set_cons_zero, List.set_cons_succ])
              refine wpAnyH_one (i := 8) (by kernel_rfl) rfl (by rfl) fun K hK => ?_
              go_simp
              refine (h2.out _ Seq.way).mono ?_
              rintro e y2 ⟨rfl, hy2⟩
              have HY2 := below_step hy2 (Seq.way : Below W4.heap.size W4 _)
              have zy2 := HY2.size
              (try dsimp only)
              clear hHeld
              refine hK.out _ _ (Kq HY2).out fun hHeld => ?_
              clear hK K
              (try simp only [Act.put, List.getElem_toArray, List.getElem_cons_zero, List.getElem_cons_succ, List.setIfInBounds_toArray, List.set_cons_zero, List.set_cons_succ])
              refine wpAnyH_take1 (i := 9) (oi := _) (v := ?_) (by kernel_rfl) rfl (by kernel_rfl) (fun _ _ _ h => h) (Or.inl ⟨by rfl, ?_⟩) (by assumption) ?_
              rotate_left 1
              · intro w hSw; (try dsimp only at hSw); go_simp; (with_reducible rfl)
              (try simp only [Act.put, List.getElem_toArray, List.getElem_cons_zero, List.getElem_cons_succ, List.setIfInBounds_toArray, List.set_cons_zero, List.set_cons_succ])
              refine wpAnyH_take1 (i := 10) (oi := _) (v := ?_) (by kernel_rfl) rfl (by kernel_rfl) (fun _ _ _ h => h) (Or.inl ⟨by rfl, ?_⟩) (by assumption) ?_
              rotate_left 1
              · intro w hSw; (try dsimp only at hSw); go_simp; (with_reducible rfl)
              (try simp only [Act.put, List.getElem_toArray, List.getElem_cons_zero, List.getElem_cons_succ, List.setIfInBounds_toArray, List.set_cons_zero, List.set_cons_succ])
              refine wpAnyH_take1 (i := 11) (oi := _) (v := ?_) (by kernel_rfl) rfl (by kernel_rfl) (fun _ _ _ h => h) (Or.inl ⟨by rfl, ?_⟩) (by assumption) ?_
              rotate_left 1
              · intro w hSw; (try dsimp only at hSw); go_simp; (with_reducible rfl)
              (try simp only [Act.put, List.getElem_toArray, List.getElem_cons_zero, List.getElem_cons_succ, List.setIfInBounds_toArray, List.set_cons_zero, List.set_cons_succ])
              refine wpAnyH_take1 (i := 12) (oi := _) (v := undef) (by kernel_rfl) rfl (by kernel_rfl) (fun _ _ _ h => h) (Or.inr ⟨by rfl, rfl⟩) (by assumption) ?_
              (try simp only [Act.put, List.getElem_toArray, List.getElem_cons_zero, List.getElem_cons_succ, List.setIfInBounds_toArray, List.set_cons_zero, List.set_cons_succ])
              refine wpAnyH_take1 (i := 13) (oi := _) (v := undef) (by kernel_rfl) rfl (by kernel_rfl) (fun _ _ _ h => h) (Or.inr ⟨by rfl, rfl⟩) (by assumption) ?_
              (try simp only [Act.put, List.getElem_toArray, List.getElem_cons_zero, List.getElem_cons_succ, List.setIfInBounds_toArray, List.set_cons_zero, List.set_cons_succ])
              refine wpAnyH_take1 (i := 14) (oi := _) (v := undef) (by kernel_rfl) rfl (by kernel_rfl) (fun _ _ _ h => h) (Or.inr ⟨by rfl, rfl⟩) (by assumption) ?_
              (try simp only [Act.put, List.getElem_toArray, List.getElem_cons_zero, List.getElem_cons_succ, List.setIfInBounds_toArray, List.set_cons_zero, List.set_cons_succ])
              refine wpAnyH_take1 (i := 15) (oi := _) (v := undef) (by kernel_rfl) rfl (by kernel_rfl) (fun _ _ _ h => h) (Or.inr ⟨by rfl, rfl⟩) (by assumption) ?_
              (try simp only [Act.put, List.getElem_toArray, List.getElem_cons_zero, List.getElem_cons_succ, List.setIfInBounds_toArray, List.set_cons_zero, List.set_cons_succ])
              refine wpAnyH_take1 (i := 16) (oi := _) (v := undef) (by kernel_rfl) rfl (by kernel_rfl) (fun _ _ _ h => h) (Or.inr ⟨by rfl, rfl⟩) (by assumption) ?_
              (try simp only [Act.put, List.getElem_toArray, List.getElem_cons_zero, List.getElem_cons_succ, List.setIfInBounds_toArray, List.set_cons_zero, List.set_cons_succ])
              refine wpAnyH_take1 (i := 17) (oi := _) (v := undef) (by kernel_rfl) rfl (by kernel_rfl) (fun _ _ _ h => h) (Or.inr ⟨by rfl, rfl⟩) (by assumption) ?_
              (try simp only [Act.put, List.getElem_toArray, List.getElem_cons_zero, List.getElem_cons_succ, List.setIfInBounds_toArray, List.set_cons_zero, List.set_cons_succ])
              refine wpAnyH_take1 (i := 18) (oi := _) (v := undef) (by kernel_rfl) rfl (by kernel_rfl) (fun _ _ _ h => h) (Or.inr ⟨by rfl, rfl⟩) (by assumption) ?_
              (try simp only [Act.put, List.getElem_toArray, List.getElem_cons_zero, List.getElem_cons_succ, List.setIfInBounds_toArray, List.set_cons_zero, List.set_cons_succ])
              refine wpAnyH_take1 (i := 19) (oi := _) (v := undef) (by kernel_rfl) rfl (by kernel_rfl) (fun _ _ _ h => h) (Or.inr ⟨by rfl, rfl⟩) (by assumption) ?_
              (try simp only [Act.put, List.getElem_toArray, List.getElem_cons_zero, List.getElem_cons_succ, List.setIfInBounds_toArray, List.set_cons_zero, List.set_cons_succ])
              refine wpAnyH_take1 (i := 20) (oi := _) (v := ?_) (by kernel_rfl) rfl (by kernel_rfl) (fun _ _ _ h => h) (Or.inl ⟨by rfl, ?_⟩) (by assumption) ?_
              rotate_left 1
              · intro w hSw; (try dsimp only at hSw); go_simp; (with_reducible rfl)
              (try simp only [Act.put, List.getElem_toArray, List.getElem_cons_zero, List.getElem_cons_succ, List.setIfInBounds_toArray, List.set_cons_zero, List.set_cons_succ])
              refine wpAnyH_done (by kernel_rfl) ?_ _
              refine NoPanic.normal ?_
              have HF := Lib.hid (below_step (below_step HY2 HBW4.out) hby.out)
              go_wp2_with fail
              go_roundw
              case rel => exact ⟨j + 1, hjl, by go_num, by rw [hz'.out], HF⟩
              case measure => simp [intOf]; omega
            | false =>
              have hqe := Lib.hid (show lnkTo r now t (natsZ cm) (j + 1) = (lt0 || dc1) by rw [hsu.out, hqd.out]; simp)
              clear hqd hsu
              (try simp only [List.append_eq, List.cons_append, List.nil_append])
              refine wp_region_noPanic ?_
              refine wp_region_held_drew (S := fun w' => w'.cell? ⟨bq, 0, none⟩ = some (.int .i64 ea) ∧ w'.cell? ⟨bq, 1, none⟩ = some (.int .i64 (nb : Int)) ∧ w'.cell? ⟨b1t, 0, none⟩ = some (.slice (some ⟨b2, o2, none⟩) r.tabs.length tc) ∧ w'.cell? ⟨b2, o2 + nb * 2, none⟩ = some (.slice ca tt.call.length cc) ∧ w'.cell? ⟨b2, o2 + nb * 2 + 1, none⟩ = some (.slice aa tt.ans.length ac) ∧ w'.cell? ⟨bt, 0, none⟩ = some (.slice na now.tabs.length nc) ∧ w'.cell? ⟨bt, 1, none⟩ = some (.slice ja jl jc) ∧ w'.cell? ⟨bt, 2, none⟩ = some (.slice ma now.lks.length mc)) (by kernel_rfl) ?_ (fun hHeld => ?_)
              · exact (Kq (Below.drew (Below.refl _ _))).out
              refine wpAnyH_take1 (i := 0) (oi := _) (v := ?_) (by kernel_rfl) rfl (by kernel_rfl) (fun _ _ _ h => h) (Or.inl ⟨by rfl, ?_⟩) (by assumption) ?_
              rotate_left 1
              · intro w hSw; (try dsimp only at hSw); go_simp; (with_reducible rfl)
              (try simp only [Act.put, List.getElem_toArray, List.getElem_cons_zero, List.setIfInBounds_toArray, List.set_cons_zero, List.set_cons_succ])
              refine wpAnyH_take1 (i := 1) (oi := _) (v := ?_) (by kernel_rfl) rfl (by kernel_rfl) (fun _ _ _ h => h) (Or.inl ⟨by rfl, ?_⟩) (by assumption) ?_
              rotate_left 1
              · intro w hSw; (try dsimp only at hSw); go_simp; (with_reducible rfl)
              (try simp only [Act.put, List.getElem_toArray, List.getElem_cons_zero, List.getElem_cons_succ, List.setIfInBounds_toArray, List.set_cons_zero, List.set_cons_succ])
              refine wpAnyH_take1 (i := 2) (oi := _) (v := ?_) (by kernel_rfl) rfl (by kernel_rfl) (fun _ _ _ h => h) (Or.inl ⟨by rfl, ?_⟩) (by assumption) ?_
              rotate_left 1
              · intro w hSw; (try dsimp only at hSw); go_simp; (with_reducible rfl)
              (try simp only [Act.put, List.getElem_toArray, List.getElem_cons_zero, List.getElem_cons_succ, List.setIfInBounds_toArray, List.set_cons_zero, List.set_cons_succ])
              refine wpAnyH_one (i := 3) (by kernel_rfl) rfl (by rfl) fun K hK => ?_
              go_simp
              refine (h1.out _ Seq.way).mono ?_
              rintro e y1 ⟨rfl, hy1⟩
              have HY1 := below_step hy1 (Seq.way : Below W4.heap.size W4 _)
              have zy1 := HY1.size
              (try dsimp only)
              clear hHeld
              refine hK.out _ _ (Kq HY1).out fun hHeld => ?_
              clear hK K
              (try simp only [Act.put, List.getElem_toArray, List.getElem_cons_zero, List.getElem_cons_succ, List.setIfInBounds_toArray, List.set_cons_zero, List.set_cons_succ])
              refine wpAnyH_take1 (i := 4) (oi := _) (v := ?_) (by kernel_rfl) rfl (by kernel_rfl) (fun _ _ _ h => h) (Or.inl ⟨by rfl, ?_⟩) (by assumption) ?_
              rotate_left 1
              · intro w hSw; (try dsimp only at hSw); go_simp; (with_reducible rfl)
              (try simp only [Act.put, List.getElem_toArray, List.getElem_cons_zero, List.getElem_cons_succ, List.setIfInBounds_toArray, List.set_cons_zero, List.set_cons_succ])
              refine wpAnyH_take1 (i := 5) (oi := _) (v := ?_) (by kernel_rfl) rfl (by kernel_rfl) (fun _ _ _ h => h) (Or.inl ⟨by rfl, ?_⟩) (by assumption) ?_
              rotate_left 1
              · intro w hSw; (try dsimp only at hSw); go_simp; (with_reducible rfl)
              (try simp only [Act.put, List.getElem_toArray, List.getElem_cons_zero, List.getElem_cons_succ, List.setIfInBounds_toArray, List.set_cons_zero, List.set_cons_succ])
              refine wpAnyH_take1 (i := 6) (oi := _) (v := ?_) (by kernel_rfl) rfl (by kernel_rfl) (fun _ _ _ h => h) (Or.inl ⟨by rfl, ?_⟩) (by assumption) ?_
              rotate_left 1
              · intro w hSw; (try dsimp only at hSw); go_simp; (with_reducible rfl)
              (try simp only [Act.put, List.getElem_toArray, List.getElem_cons_zero, List.getElem_cons_succ, List.setIfInBounds_toArray, List.set_cons_zero, List.set_cons_succ])
              refine wpAnyH_take1 (i := 7) (oi := _) (v := ?_) (by kernel_rfl) rfl (by kernel_rfl) (fun _ _ _ h => h) (Or.inl ⟨by rfl, ?_⟩) (by assumption) ?_
              rotate_left 1
              · intro w hSw; (try dsimp only at hSw); go_simp; (with_reducible rfl)
              (try simp only [Act.put, List.getElem_toArray, List.getElem_cons_zero, List.getElem_cons_succ, List.setIfInBounds_toArray, List.set_cons_zero, List.set_cons_succ])
              refine wpAnyH_one (i := 8) (by kernel_rfl) rfl (by rfl) fun K hK => ?_
              go_simp
              refine (h2.out _ Seq.way).mono ?_
              rintro e y2 ⟨rfl, hy2⟩
              have HY2 := below_step hy2 (Seq.way : Below W4.heap.size W4 _)
              have zy2 := HY2.size
              (try dsimp only)
              clear hHeld
              refine hK.out _ _ (Kq HY2).out fun hHeld => ?_
              clear hK K
              (try simp only [Act.put, List.getElem_toArray, List.getElem_cons_zero, List.getElem_cons_succ, List.setIfInBounds_toArray, List.set_cons_zero, List.set_cons_succ])
              refine wpAnyH_take1 (i := 9) (oi := _) (v := ?_) (by kernel_rfl) rfl (by kernel_rfl) (fun _ _ _ h => h) (Or.inl ⟨by rfl, ?_⟩) (by assumption) ?_
              rotate_left 1
              · intro w hSw; (try dsimp only at hSw); go_simp; (with_reducible rfl)
              (try simp only [Act.put, List.getElem_toArray, List.getElem_cons_zero, List.getElem_cons_succ, List.setIfInBounds_toArray, List.set_cons_zero, List.set_cons_succ])
              refine wpAnyH_take1 (i := 10) (oi := _) (v := ?_) (by kernel_rfl) rfl (by kernel_rfl) (fun _ _ _ h => h) (Or.inl ⟨by rfl, ?_⟩) (by assumption) ?_
              rotate_left 1
              · intro w hSw; (try dsimp only at hSw); go_simp; (with_reducible rfl)
              (try simp only [Act.put, List.getElem_toArray, List.getElem_cons_zero, List.getElem_cons_succ, List.setIfInBounds_toArray, List.set_cons_zero, List.set_cons_succ])
              refine wpAnyH_take1 (i := 11) (oi := _) (v := ?_) (by kernel_rfl) rfl (by kernel_rfl) (fun _ _ _ h => h) (Or.inl ⟨by rfl, ?_⟩) (by assumption) ?_
              rotate_left 1
              · intro w hSw; (try dsimp only at hSw); go_simp; (with_reducible rfl)
              (try simp only [Act.put, List.getElem_toArray, List.getElem_cons_zero, List.getElem_cons_succ, List.setIfInBounds_toArray, List.set_cons_zero, List.set_cons_succ])
              refine wpAnyH_take1 (i := 12) (oi := _) (v := ?_) (by kernel_rfl) rfl (by kernel_rfl) (fun _ _ _ h => h) (Or.inl ⟨by rfl, ?_⟩) (by assumption) ?_
              rotate_left 1
              · intro w hSw; (try dsimp only at hSw); go_simp; (with_reducible rfl)
              (try simp only [Act.put, List.getElem_toArray, List.getElem_cons_zero, List.getElem_cons_succ, List.setIfInBounds_toArray, List.set_cons_zero, List.set_cons_succ])
              refine wpAnyH_take1 (i := 13) (oi := _) (v := ?_) (by kernel_rfl) rfl (by kernel_rfl) (fun _ _ _ h => h) (Or.inl ⟨by rfl, ?_⟩) (by assumption) ?_
              rotate_left 1
              · intro w hSw; (try dsimp only at hSw); go_simp; (with_reducible rfl)
              (try simp only [Act.put, List.getElem_toArray, List.getElem_cons_zero, List.getElem_cons_succ, List.setIfInBounds_toArray, List.set_cons_zero, List.set_cons_succ])
              refine wpAnyH_take1 (i := 14) (oi := _) (v := ?_) (by kernel_rfl) rfl (by kernel_rfl) (fun _ _ _ h => h) (Or.inl ⟨by rfl, ?_⟩) (by assumption) ?_
              rotate_left 1
              · intro w hSw; (try dsimp only at hSw); go_simp; (with_reducible rfl)
              (try simp only [Act.put, List.getElem_toArray, List.getElem_cons_zero, List.getElem_cons_succ, List.setIfInBounds_toArray, List.set_cons_zero, List.set_cons_succ])
              refine wpAnyH_take1 (i := 15) (oi := _) (v := ?_) (by kernel_rfl) rfl (by kernel_rfl) (fun _ _ _ h => h) (Or.inl ⟨by rfl, ?_⟩) (by assumption) ?_
              rotate_left 1
              · intro w hSw; (try dsimp only at hSw); go_simp; (with_reducible rfl)
              (try simp only [Act.put, List.getElem_toArray, List.getElem_cons_zero, List.getElem_cons_succ, List.setIfInBounds_toArray, List.set_cons_zero, List.set_cons_succ])
              refine wpAnyH_take1 (i := 16) (oi := _) (v := ?_) (by kernel_rfl) rfl (by kernel_rfl) (fun _ _ _ h => h) (Or.inl ⟨by rfl, ?_⟩) (by assumption) ?_
              rotate_left 1
              · intro w hSw; (try dsimp only at hSw); go_simp; (with_reducible rfl)
              (try simp only [Act.put, List.getElem_toArray, List.getElem_cons_zero, List.getElem_cons_succ, List.setIfInBounds_toArray, List.set_cons_zero, List.set_cons_succ])
              refine wpAnyH_take1 (i := 17) (oi := _) (v := ?_) (by kernel_rfl) rfl (by kernel_rfl) (fun _ _ _ h => h) (Or.inl ⟨by rfl, ?_⟩) (by assumption) ?_
              rotate_left 1
              · intro w hSw; (try dsimp only at hSw); go_simp; (with_reducible rfl)
              (try simp only [Act.put, List.getElem_toArray, List.getElem_cons_zero, List.getElem_cons_succ, List.setIfInBounds_toArray, List.set_cons_zero, List.set_cons_succ])
              refine wpAnyH_take1 (i := 18) (oi := _) (v := ?_) (by kernel_rfl) rfl (by kernel_rfl) (fun _ _ _ h => h) (Or.inl ⟨by rfl, ?_⟩) (by assumption) ?_
              rotate_left 1
              · intro w hSw; (try dsimp only at hSw); go_simp; (with_reducible rfl)
              (try simp only [Act.put, List.getElem_toArray, List.getElem_cons_zero, List.getElem_cons_succ, List.setIfInBounds_toArray, List.set_cons_zero, List.set_cons_succ])
              refine wpAnyH_one (i := 19) (by kernel_rfl) rfl (by rfl) fun K hK => ?_
              go_simp
              refine (h3.out _ Seq.way).mono ?_
              rintro e y3 ⟨rfl, hy3⟩
              have HY3 := below_step hy3 (Seq.way : Below W4.heap.size W4 _)
              have zy3 := HY3.size
              (try dsimp only)
              clear hHeld
              refine hK.out _ _ (Kq HY3).out fun hHeld => ?_
              clear hK K
              (try simp only [Act.put, List.getElem_toArray, List.getElem_cons_zero, List.getElem_cons_succ, List.setIfInBounds_toArray, List.set_cons_zero, List.set_cons_succ])
              refine wpAnyH_take1 (i := 20) (oi := _) (v := ?_) (by kernel_rfl) rfl (by kernel_rfl) (fun _ _ _ h => h) (Or.inl ⟨by rfl, ?_⟩) (by assumption) ?_
              rotate_left 1
              · intro w hSw; (try dsimp only at hSw); go_simp; (with_reducible rfl)
              (try simp only [Act.put, List.getElem_toArray, List.getElem_cons_zero, List.getElem_cons_succ, List.setIfInBounds_toArray, List.set_cons_zero, List.set_cons_succ])
              refine wpAnyH_done (by kernel_rfl) ?_ _
              refine NoPanic.normal ?_
              have HF := Lib.hid (below_step (below_step HY3 HBW4.out) hby.out)
              cases dc1 with
              | true =>
                have hz' := Lib.hid (show lnkTo r now t (natsZ cm) (j + 1) = true by rw [hqe.out]; simp)
                go_wp2_with fail
                go_roundw
                case rel => exact ⟨j + 1, hjl, by go_num, by rw [hz'.out], HF⟩
                case measure => simp [intOf]; omega
              | false =>
                have hz' := Lib.hid (show lnkTo r now t (natsZ cm) (j + 1) = lt0 by rw [hqe.out]; simp)
                go_wp2_with fail
                go_roundw
                case rel => exact ⟨j + 1, hjl, by go_num, by rw [hz'.out], HF⟩
                case measure => simp [intOf]; omega
        · have hjI : ¬ (j : Int) < (r.lks.length : Int) := by omega
          rw [lnkTo_all (j := j) (by omega), hpc.out]
          have HF := Lib.hid (below_step hby.out HB5o.out)
          have HFz := Lib.hid (below_step HF.out hbz.out)
          have hOf := Lib.hid (hown.out.move HF.out)
          have hzf := HFz.out.size
          have HXf := Lib.hid (HX.out.at HF.out)
          cases hq : pf cm with
          | false =>
            rw [hq] at hst
            have hz' := Lib.hid (show ((C.take (k + 1)).filter pf).flatten = ((C.take k).filter pf).flatten by rw [hst.out]; simp)
            clear hjl hst hq
            go_wp2_with fail
            go_roundw
            case rel => exact ⟨k + 1, hkl, by go_num, Lib.hid (by rw [hz'.out]; exact hOf.out), HFz⟩
            case measure => simp [intOf]; omega
          | true =>
            rw [hq] at hst
            have hz' := Lib.hid (show natsZ ((C.take (k + 1)).filter pf).flatten = natsZ ((C.take k).filter pf).flatten ++ natsZ cm by rw [hst.out]; unfold natsZ; simp)
            have hlen2 := Lib.hid (show (natsZ ((C.take k).filter pf).flatten).length + (natsZ cm).length ≤ 1000000 by rw [natsZ_len, natsZ_len]; omega)
            clear hjl hst hq r0 r1 r2 rl n0 n1 n2 nl
            go_wp2_with (at_builtin; refine wpList_appG (S := fun _ => True) rfl _ _ 31 rfl Try.underlying31 infoInt rfl rfl hOf.out.intS rfl HXf.out (fun b hb _ => ⟨trivial, fun e => by have h1 := (hOf.out.blk e).1; have h2 := hb.2; omega⟩) (by decide) ?_ ?_ ?_)
            · have := hlen2.out; omega
            · intro ao3 cap3 w7 hown3 hk3
              have H7 := Lib.hid (show Own intE (fun _ => False) w3.heap.size 3 w7 _ (natsZ ((C.take (k + 1)).filter pf).flatten) by rw [hz'.out]; exact hown3.intS)
              have K7 := Lib.hid (HFz.out.trans hk3.below)
              clear hown3 hk3
              go_wp2_with fail
              go_roundw
              case rel => exact ⟨k + 1, hkl, by go_num, H7, K7⟩
              case measure => simp [intOf]; omega
    · have hkI : ¬ (k : Int) < (C.length : Int) := by omega
      have hbw := Lib.hid (below_step hbz.out HB3w.out)
      have hte := Lib.hid (show C.take k = C from List.take_of_length_le (by omega))
      have Hln := Lib.hid (show (natsZ ((C.take k).filter pf).flatten).length ≤ 1000000 by omega)
      clear hkl hln hln2 hml
      go_wp2_with fail
      refine (sortI_spec hown.out hzr (by have := Hln.out; omega)).mono ?_
      rintro e w8 ⟨rfl, hb8, ho8⟩
      have hfin := Lib.hid (show Seq intE (fun b => w.heap.size ≤ b) w8 (.slice oa (natsZ ((C.take k).filter pf).flatten).length oc) (natsZ (againL r now c)) by
        rw [← Hdef.out]
        have h1 := (below_step HB3w.out HBw.out).size
        rw [hte.out] at ho8 ⊢
        exact ho8.seq (by rw [sortL_len]; have := Hln.out; rw [hte.out] at this; omega) fun b _ hb => hb.elim False.elim fun h => by omega)
      have hbel := Lib.hid (below_step (hbz.out.trans hb8) (below_step HB3w.out HBw.out))
      clear hb8 ho8
      go_wp2_with fail
      go_ret
      exact ⟨_, rfl, hbel.out, hfin.out⟩
end
end Go.Proofs.Ytbcambjonjhopaa
