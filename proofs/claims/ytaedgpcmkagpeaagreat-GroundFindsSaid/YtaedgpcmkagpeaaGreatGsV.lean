/-
  Layer 16, the program: rows cloned; sets (ground.set); do things rise (ground.rises).
-/
import Derived.Test.YtaedgpcmkagpeaaGreatGsU
namespace Go.Proofs.YtaedgpcmkagpeaaGreat
open Go Go.RowKit

/-! ### []Cell -/
set_option maxHeartbeats 1600000 in
set_option maxRecDepth 100000 in
theorem cloneT_spec {S : Nat → Prop} {w : World} {v : Value} {l : List (List Cell)} (hl : Seq (seqE cellE) S w v l) (hlen : l.length ≤ 1000000000) :
    Calls Tryz.prog 68 #[v] w (Ret (fun o w' => Own (seqE cellE) (fun b => S b ∧ b < w.heap.size) w.heap.size 33 w' o l) w) := by
  have hb := Lib.hid hl.bnd
  obtain ⟨ao, cap, rfl, h1, h2, h3, h4, h5⟩ := hl
  cases ao with
  | none =>
    obtain rfl := h4 rfl
    have hl0 : l.length = 0 := by omega
    have hn := Lib.hid (List.eq_nil_of_length_eq_zero hl0)
    have hnil := fun (w : World) (a : Option Addr) (n c n' c' : Nat) => Lib.run_eql_slice_nil (P := Tryz.prog) w 23 33 a n c n' c' Tryz.underlying23
    clear h5 h4
    go_enter Tryz.func68, Tryz.ntmps68
    go_wp2_with fail
    go_ret
    exact ⟨_, rfl, Below.refl _ _, by rw [hn.out]; exact Own.nil _ _ _ _ _⟩
  | some ad =>
    clear h5 h4
    have hown : Own (seqE cellE) (fun b => S b ∧ b < w.heap.size) w.heap.size 33 (w.alloc (.cells #[] 33)) (.slice (some ⟨w.heap.size, 0, none⟩) 0 0) ([] : List (List Cell)) := Own.lit0 rfl (Nat.le_refl _) rfl
    have hba := Lib.hid (hb.out.at (Seq.way (w' := w.alloc (.cells #[] 33))))
    have hnil := fun (w : World) (a : Option Addr) (n c n' c' : Nat) => Lib.run_eql_slice_nil (P := Tryz.prog) w 23 33 a n c n' c' Tryz.underlying23
    go_enter Tryz.func68, Tryz.ntmps68
    go_wp2_with (at_builtin; refine wpList_appL (E := seqE cellE) (wm := w.alloc (.cells #[] 33)) (zs := l) rfl _ _ 23 rfl Tryz.underlying23 infoSeq rfl rfl hown (Below.refl _ _) rfl hba.out (fun b h _ => ⟨h, .inl h.2⟩) rfl (by omega) (by omega) (by simp) ?_)
    intro ao' cap' w' hown' hkept
    have hb' := (Seq.way (w := w) (w' := w.alloc (.cells #[] 33)) (B := w.heap.size)).trans hkept.below
    have Hown := Lib.hid hown'
    clear hown hown' hkept hba
    go_wp2_with fail
    go_ret
    exact ⟨_, rfl, hb', Hown.out⟩

set_option maxHeartbeats 1600000 in
set_option maxRecDepth 100000 in
theorem setT_spec {S : Nat → Prop} {w : World} {v : Value} {l : List (List Cell)} (hl : Seq (seqE cellE) S w v l) (hlen : l.length ≤ 1000000) :
    Calls Tryz.prog 34 #[v, .func (.func 35) #[] #[]] w (Ret (fun o w' => Seq (seqE cellE) (Fr S w) w' o (setL cmpT l)) w) := by
  have HL := Lib.hid hl
  obtain ⟨la, lc, rfl⟩ := hl.shape
  clear hl
  go_enter Tryz.func34, Tryz.ntmps34
  go_wp2_with fail
  refine (cloneT_spec (HL.out.at Seq.way) (by omega)).mono ?_
  rintro e w1 ⟨r1, rfl, hb1, ho1⟩
  have HO1 := Lib.hid ho1
  obtain ⟨a1, c1, rfl, -, -⟩ := ho1.shape
  have k0 : w1.cell? ⟨w.heap.size, 0, none⟩ = some (.func (.func 35) #[] #[]) := by rw [hb1.cell (by simp)]; simp
  have B1 := Lib.hid (below_step hb1 (Seq.way : Below w.heap.size w _))
  have l1 : w.heap.size < w1.heap.size := by have := hb1.size; simp at this; omega
  have hbs : w.heap.size + 1 ≤ w1.heap.size := l1
  have HO1' := Lib.hid (show Own (seqE cellE) _ (w.heap.size + 1) 33 w1 _ l by simpa using HO1.out)
  clear ho1 hb1 HO1
  go_wp2_with fail
  refine (sortTerm_spec HO1'.out hbs hlen).mono ?_
  rintro e w2 ⟨rfl, hb2, l', hp, hs, ho2⟩
  have HO2 := Lib.hid ho2
  have k2 : w2.cell? ⟨w.heap.size, 0, none⟩ = some (.func (.func 35) #[] #[]) := (hb2.cell (p := ⟨w.heap.size, 0, none⟩) (Nat.lt_succ_self _)).trans k0
  have B2 := Lib.hid (B1.out.trans (hb2.mono (Nat.le_succ _)))
  have hl' := Lib.hid (hp.length_eq)
  have hset := Lib.hid (cpt_set cmpT_ok hp hs)
  have hbs2 : w.heap.size + 1 ≤ w2.heap.size := Nat.le_trans hbs hb2.size
  obtain ⟨a2, c2, he2, -, -⟩ := ho2.shape
  rw [hl'.out] at he2
  have hlen' := Lib.hid (show l'.length ≤ 1000000 by rw [hl'.out]; exact hlen)
  clear ho2 hb2 hp hs k0
  go_wp2_with fail
  refine (compactT_spec HO2.out hbs2 hlen'.out k2 (Nat.lt_succ_self _)).mono ?_
  rintro e w3 ⟨r3, rfl, hb3, ho3⟩
  have HO3 := Lib.hid ho3
  have B3 := Lib.hid (B2.out.trans (hb3.mono (Nat.le_succ _)))
  obtain ⟨a3, c3, rfl, -, -⟩ := ho3.shape
  have hfl := Lib.hid (show (cptL l').length ≤ 140737488355328 by have := cptL_len l'; have := hlen'.out; omega)
  clear ho3 hb3 k2
  go_wp2_with fail
  go_ret
  refine ⟨_, rfl, B3.out, ?_⟩
  rw [← hset.out]
  exact HO3.out.seq hfl.out fun b _ h => h.imp (fun h => h.1) fun h => by omega

set_option maxHeartbeats 3200000 in
set_option maxRecDepth 100000 in
theorem risesT_spec {S : Nat → Prop} {w : World} {v : Value} {l : List (List Cell)} (hl : Seq (seqE cellE) S w v l) :
    Calls Tryz.prog 48 #[v, .func (.func 35) #[] #[]] w (RetV (.bool (riseB cmpT l)) w) := by
  have HL := Lib.hid hl
  obtain ⟨la, lc, rfl, -, -, hll, -⟩ := hl
  go_enter Tryz.func48, Tryz.ntmps48
  go_wp2_with fail
  go_loopw [5] (fun i wr => ∃ k : Nat, 1 ≤ k ∧ k ≤ l.length + 1 ∧ i = .int .i64 k ∧ Hid (∀ j (hj : j + 1 < l.length), j + 1 < k → cmpT l[j] l[j + 1] < 0) ∧ Hid (Below w.heap.size w wr)) (fun i _ => l.length + 1 - (intOf i).toNat)
  case atStart => exact ⟨1, Nat.le_refl _, by omega, rfl, Lib.hid (fun j _ h => absurd h (by omega)), Lib.hid (Below.refl _ _)⟩
  case round =>
    obtain ⟨k, hk1, hk, rfl, hno, hbr⟩ := hrel
    by_cases hlt : k < l.length
    · obtain ⟨j, rfl⟩ : ∃ j, k = j + 1 := ⟨k - 1, by omega⟩
      obtain ⟨_, _, ee, -, -, -, -, x5⟩ := (HL.out.at hbr.out)
      simp only [Value.slice.injEq, true_and] at ee
      obtain ⟨rfl, rfl⟩ := ee
      obtain ⟨b, off, p1, n1, rfl, -, hb, hc0, hX⟩ := x5.seq hlt
      obtain ⟨b2, off2, p2, n2, e2, -, hb2, hd0, hY⟩ := x5.seq (k := j) (by omega)
      simp only [Option.some.injEq, Addr.mk.injEq, and_true] at e2
      obtain ⟨rfl, rfl⟩ := e2
      have hnot := Lib.hid (riseB_no (c := cmpT) hlt)
      have hyes := Lib.hid (fun h : cmpT (l[j]'(by omega)) l[j + 1] < 0 => show ∀ t (ht : t + 1 < l.length), t + 1 < j + 1 + 1 → cmpT l[t] l[t + 1] < 0 from fun t ht htk => by
        by_cases e : t = j
        · subst e; exact h
        · exact hno.out t ht (by omega))
      obtain ⟨x, hx⟩ : ∃ x, x = l[j + 1] := ⟨_, rfl⟩
      obtain ⟨y, hy⟩ : ∃ y, y = l[j]'(by omega) := ⟨_, rfl⟩
      rw [← hx] at hc0 hX hnot hyes
      rw [← hy] at hd0 hY hnot hyes
      have HX := Lib.hid hX
      have HY := Lib.hid hY
      clear hX hY
      have hkl : ((j + 1 : Nat) : Int) < (l.length : Int) := by omega
      have hk0 : (0 : Int) ≤ ((j + 1 : Nat) : Int) := by omega
      have hj0 : ((j + 1 : Nat) : Int) - 1 = (j : Int) := by omega
      have hkp1 : (j : Int) + 1 < (l.length : Int) := by omega
      have hkp0 : (0 : Int) ≤ (j : Int) + 1 := by omega
      have hkt : ((j : Int) + 1).toNat = j + 1 := by omega
      have hjn : (j : Int) < (l.length : Int) := by omega
      have hjn0 : (0 : Int) ≤ (j : Int) := by omega
      have hkw : IntKind.i64.wrap (j : Int) = (j : Int) := by rw [IntKind.wrap_i64]; omega
      clear x5 hx hy hno
      go_upto_region 4 with fail
      go_still_tail 10, (by kernel_rfl)
      go_wp2_with fail
      refine (CompareG_spec (HY.out.at Seq.way) (HX.out.at Seq.way)).mono ?_
      rintro e w1 ⟨rfl, hb1, -⟩
      have B1 := Lib.hid (below_step (below_step hb1 (Seq.way : Below wr.heap.size wr _)) hbr.out)
      by_cases hcm : cmpT y x < 0
      · have hd1 : decide (cmpT y x ≥ 0) = false := by simp; omega
        have hd2 : decide (0 ≤ cmpT y x) = false := by simp; omega
        have hy' := Lib.hid (hyes.out hcm)
        clear hcm hnot hyes
        go_wp2_with fail
        go_roundw
        case rel => exact ⟨j + 2, by omega, by omega, by go_num, hy', B1⟩
        case measure => simp [intOf]; omega
      · have hd1 : decide (cmpT y x ≥ 0) = true := by simp; omega
        have hd2 : decide (0 ≤ cmpT y x) = true := by simp; omega
        have hn' := Lib.hid (hnot.out (by first | exact hcm | omega))
        clear hcm hnot hyes
        go_wp2_with fail
        go_ret
        exact ⟨ret_bool hn'.out.symm, B1.out⟩
    · have hkl : ¬ ((k : Int) < (l.length : Int)) := by omega
      have hres := Lib.hid (riseB_yes (c := cmpT) fun j hj => hno.out j hj (by omega))
      clear hno
      go_wp2_with fail
      go_ret
      exact ⟨ret_bool hres.out.symm, hbr.out⟩

/-! ### int -/
set_option maxHeartbeats 1600000 in
set_option maxRecDepth 100000 in
theorem cloneI_spec {S : Nat → Prop} {w : World} {v : Value} {l : List (Int)} (hl : Seq (intE) S w v l) (hlen : l.length ≤ 1000000000) :
    Calls Tryz.prog 76 #[v] w (Ret (fun o w' => Own (intE) (fun b => S b ∧ b < w.heap.size) w.heap.size 3 w' o l) w) := by
  have hb := Lib.hid hl.bnd
  obtain ⟨ao, cap, rfl, h1, h2, h3, h4, h5⟩ := hl
  cases ao with
  | none =>
    obtain rfl := h4 rfl
    have hl0 : l.length = 0 := by omega
    have hn := Lib.hid (List.eq_nil_of_length_eq_zero hl0)
    have hnil := fun (w : World) (a : Option Addr) (n c n' c' : Nat) => Lib.run_eql_slice_nil (P := Tryz.prog) w 36 3 a n c n' c' Tryz.underlying36
    clear h5 h4
    go_enter Tryz.func76, Tryz.ntmps76
    go_wp2_with fail
    go_ret
    exact ⟨_, rfl, Below.refl _ _, by rw [hn.out]; exact Own.nil _ _ _ _ _⟩
  | some ad =>
    clear h5 h4
    have hown : Own (intE) (fun b => S b ∧ b < w.heap.size) w.heap.size 3 (w.alloc (.cells #[] 3)) (.slice (some ⟨w.heap.size, 0, none⟩) 0 0) ([] : List (Int)) := Own.lit0 rfl (Nat.le_refl _) rfl
    have hba := Lib.hid (hb.out.at (Seq.way (w' := w.alloc (.cells #[] 3))))
    have hnil := fun (w : World) (a : Option Addr) (n c n' c' : Nat) => Lib.run_eql_slice_nil (P := Tryz.prog) w 36 3 a n c n' c' Tryz.underlying36
    go_enter Tryz.func76, Tryz.ntmps76
    go_wp2_with (at_builtin; refine wpList_appL (E := intE) (wm := w.alloc (.cells #[] 3)) (zs := l) rfl _ _ 36 rfl Tryz.underlying36 infoInt rfl rfl hown (Below.refl _ _) rfl hba.out (fun b h _ => ⟨h, .inl h.2⟩) rfl (by omega) (by omega) (by simp) ?_)
    intro ao' cap' w' hown' hkept
    have hb' := (Seq.way (w := w) (w' := w.alloc (.cells #[] 3)) (B := w.heap.size)).trans hkept.below
    have Hown := Lib.hid hown'
    clear hown hown' hkept hba
    go_wp2_with fail
    go_ret
    exact ⟨_, rfl, hb', Hown.out⟩

set_option maxHeartbeats 1600000 in
set_option maxRecDepth 100000 in
theorem setI_spec {S : Nat → Prop} {w : World} {v : Value} {l : List (Int)} (hl : Seq (intE) S w v l) (hlen : l.length ≤ 1000000) :
    Calls Tryz.prog 37 #[v, .func (.func 38) #[] #[]] w (Ret (fun o w' => Seq (intE) (Fr S w) w' o (setL cmpZ l)) w) := by
  have HL := Lib.hid hl
  obtain ⟨la, lc, rfl⟩ := hl.shape
  clear hl
  go_enter Tryz.func37, Tryz.ntmps37
  go_wp2_with fail
  refine (cloneI_spec (HL.out.at Seq.way) (by omega)).mono ?_
  rintro e w1 ⟨r1, rfl, hb1, ho1⟩
  have HO1 := Lib.hid ho1
  obtain ⟨a1, c1, rfl, -, -⟩ := ho1.shape
  have k0 : w1.cell? ⟨w.heap.size, 0, none⟩ = some (.func (.func 38) #[] #[]) := by rw [hb1.cell (by simp)]; simp
  have B1 := Lib.hid (below_step hb1 (Seq.way : Below w.heap.size w _))
  have l1 : w.heap.size < w1.heap.size := by have := hb1.size; simp at this; omega
  have hbs : w.heap.size + 1 ≤ w1.heap.size := l1
  have HO1' := Lib.hid (show Own (intE) _ (w.heap.size + 1) 3 w1 _ l by simpa using HO1.out)
  clear ho1 hb1 HO1
  go_wp2_with fail
  refine (sortInt_spec HO1'.out hbs hlen).mono ?_
  rintro e w2 ⟨rfl, hb2, l', hp, hs, ho2⟩
  have HO2 := Lib.hid ho2
  have k2 : w2.cell? ⟨w.heap.size, 0, none⟩ = some (.func (.func 38) #[] #[]) := (hb2.cell (p := ⟨w.heap.size, 0, none⟩) (Nat.lt_succ_self _)).trans k0
  have B2 := Lib.hid (B1.out.trans (hb2.mono (Nat.le_succ _)))
  have hl' := Lib.hid (hp.length_eq)
  have hset := Lib.hid (cpt_set cmpZ_cmp hp hs)
  have hbs2 : w.heap.size + 1 ≤ w2.heap.size := Nat.le_trans hbs hb2.size
  obtain ⟨a2, c2, he2, -, -⟩ := ho2.shape
  rw [hl'.out] at he2
  have hlen' := Lib.hid (show l'.length ≤ 1000000 by rw [hl'.out]; exact hlen)
  clear ho2 hb2 hp hs k0
  go_wp2_with fail
  refine (compactI_spec HO2.out hbs2 hlen'.out k2 (Nat.lt_succ_self _)).mono ?_
  rintro e w3 ⟨r3, rfl, hb3, ho3⟩
  have HO3 := Lib.hid ho3
  have B3 := Lib.hid (B2.out.trans (hb3.mono (Nat.le_succ _)))
  obtain ⟨a3, c3, rfl, -, -⟩ := ho3.shape
  have hfl := Lib.hid (show (cptL l').length ≤ 140737488355328 by have := cptL_len l'; have := hlen'.out; omega)
  clear ho3 hb3 k2
  go_wp2_with fail
  go_ret
  refine ⟨_, rfl, B3.out, ?_⟩
  rw [← hset.out]
  exact HO3.out.seq hfl.out fun b _ h => h.imp (fun h => h.1) fun h => by omega

set_option maxHeartbeats 3200000 in
set_option maxRecDepth 100000 in
theorem risesI_spec {S : Nat → Prop} {w : World} {v : Value} {l : List (Int)} (hl : Seq (intE) S w v l) :
    Calls Tryz.prog 53 #[v, .func (.func 38) #[] #[]] w (RetV (.bool (riseB cmpZ l)) w) := by
  have HL := Lib.hid hl
  obtain ⟨la, lc, rfl, -, -, hll, -⟩ := hl
  go_enter Tryz.func53, Tryz.ntmps53
  go_wp2_with fail
  go_loopw [5] (fun i wr => ∃ k : Nat, 1 ≤ k ∧ k ≤ l.length + 1 ∧ i = .int .i64 k ∧ Hid (∀ j (hj : j + 1 < l.length), j + 1 < k → cmpZ l[j] l[j + 1] < 0) ∧ Hid (Below w.heap.size w wr)) (fun i _ => l.length + 1 - (intOf i).toNat)
  case atStart => exact ⟨1, Nat.le_refl _, by omega, rfl, Lib.hid (fun j _ h => absurd h (by omega)), Lib.hid (Below.refl _ _)⟩
  case round =>
    obtain ⟨k, hk1, hk, rfl, hno, hbr⟩ := hrel
    by_cases hlt : k < l.length
    · obtain ⟨j, rfl⟩ : ∃ j, k = j + 1 := ⟨k - 1, by omega⟩
      obtain ⟨_, _, ee, -, -, -, -, x5⟩ := (HL.out.at hbr.out)
      simp only [Value.slice.injEq, true_and] at ee
      obtain ⟨rfl, rfl⟩ := ee
      obtain ⟨b, off, rfl, -, hb, hc0, -⟩ := x5.int hlt
      obtain ⟨b2, off2, e2, -, hb2, hd0, -⟩ := x5.int (k := j) (by omega)
      simp only [Option.some.injEq, Addr.mk.injEq, and_true] at e2
      obtain ⟨rfl, rfl⟩ := e2
      have hnot := Lib.hid (riseB_no (c := cmpZ) hlt)
      have hyes := Lib.hid (fun h : cmpZ (l[j]'(by omega)) l[j + 1] < 0 => show ∀ t (ht : t + 1 < l.length), t + 1 < j + 1 + 1 → cmpZ l[t] l[t + 1] < 0 from fun t ht htk => by
        by_cases e : t = j
        · subst e; exact h
        · exact hno.out t ht (by omega))
      obtain ⟨x, hx⟩ : ∃ x, x = l[j + 1] := ⟨_, rfl⟩
      obtain ⟨y, hy⟩ : ∃ y, y = l[j]'(by omega) := ⟨_, rfl⟩
      rw [← hx] at hc0 hnot hyes
      rw [← hy] at hd0 hnot hyes
      skip
      have hkl : ((j + 1 : Nat) : Int) < (l.length : Int) := by omega
      have hk0 : (0 : Int) ≤ ((j + 1 : Nat) : Int) := by omega
      have hj0 : ((j + 1 : Nat) : Int) - 1 = (j : Int) := by omega
      have hkp1 : (j : Int) + 1 < (l.length : Int) := by omega
      have hkp0 : (0 : Int) ≤ (j : Int) + 1 := by omega
      have hkt : ((j : Int) + 1).toNat = j + 1 := by omega
      have hjn : (j : Int) < (l.length : Int) := by omega
      have hjn0 : (0 : Int) ≤ (j : Int) := by omega
      have hkw : IntKind.i64.wrap (j : Int) = (j : Int) := by rw [IntKind.wrap_i64]; omega
      clear x5 hx hy hno
      go_upto_region 4 with fail
      go_still_tail 10, (by kernel_rfl)
      go_wp2_with fail
      refine (cmp_spec (w := wr.drew) (a := y) (b := x)).mono ?_
      rintro e w1 ⟨rfl, rfl⟩
      have B1 := Lib.hid (below_step ((Seq.way : Below wr.heap.size wr wr.drew)) hbr.out)
      by_cases hcm : cmpZ y x < 0
      · have hd1 : decide (cmpZ y x ≥ 0) = false := by simp; omega
        have hd2 : decide (0 ≤ cmpZ y x) = false := by simp; omega
        have hy' := Lib.hid (hyes.out hcm)
        clear hcm hnot hyes
        go_wp2_with fail
        go_roundw
        case rel => exact ⟨j + 2, by omega, by omega, by go_num, hy', B1⟩
        case measure => simp [intOf]; omega
      · have hd1 : decide (cmpZ y x ≥ 0) = true := by simp; omega
        have hd2 : decide (0 ≤ cmpZ y x) = true := by simp; omega
        have hn' := Lib.hid (hnot.out (by first | exact hcm | omega))
        clear hcm hnot hyes
        go_wp2_with fail
        go_ret
        exact ⟨ret_bool hn'.out.symm, B1.out⟩
    · have hkl : ¬ ((k : Int) < (l.length : Int)) := by omega
      have hres := Lib.hid (riseB_yes (c := cmpZ) fun j hj => hno.out j hj (by omega))
      clear hno
      go_wp2_with fail
      go_ret
      exact ⟨ret_bool hres.out.symm, hbr.out⟩

/-! ### Rule -/
set_option maxHeartbeats 1600000 in
set_option maxRecDepth 100000 in
theorem cloneU_spec {S : Nat → Prop} {w : World} {v : Value} {l : List (Rule)} (hl : Seq (ruleE) S w v l) (hlen : l.length ≤ 1000000000) :
    Calls Tryz.prog 81 #[v] w (Ret (fun o w' => Own (ruleE) (fun b => S b ∧ b < w.heap.size) w.heap.size 46 w' o l) w) := by
  have hb := Lib.hid hl.bnd
  obtain ⟨ao, cap, rfl, h1, h2, h3, h4, h5⟩ := hl
  cases ao with
  | none =>
    obtain rfl := h4 rfl
    have hl0 : l.length = 0 := by omega
    have hn := Lib.hid (List.eq_nil_of_length_eq_zero hl0)
    have hnil := fun (w : World) (a : Option Addr) (n c n' c' : Nat) => Lib.run_eql_slice_nil (P := Tryz.prog) w 24 46 a n c n' c' Tryz.underlying24
    clear h5 h4
    go_enter Tryz.func81, Tryz.ntmps81
    go_wp2_with fail
    go_ret
    exact ⟨_, rfl, Below.refl _ _, by rw [hn.out]; exact Own.nil _ _ _ _ _⟩
  | some ad =>
    clear h5 h4
    have hown : Own (ruleE) (fun b => S b ∧ b < w.heap.size) w.heap.size 46 (w.alloc (.cells #[] 46)) (.slice (some ⟨w.heap.size, 0, none⟩) 0 0) ([] : List (Rule)) := Own.lit0 rfl (Nat.le_refl _) rfl
    have hba := Lib.hid (hb.out.at (Seq.way (w' := w.alloc (.cells #[] 46))))
    have hnil := fun (w : World) (a : Option Addr) (n c n' c' : Nat) => Lib.run_eql_slice_nil (P := Tryz.prog) w 24 46 a n c n' c' Tryz.underlying24
    go_enter Tryz.func81, Tryz.ntmps81
    go_wp2_with (at_builtin; refine wpList_appL (E := ruleE) (wm := w.alloc (.cells #[] 46)) (zs := l) rfl _ _ 24 rfl Tryz.underlying24 infoRule rfl rfl hown (Below.refl _ _) rfl hba.out (fun b h _ => ⟨h, .inl h.2⟩) rfl (by omega) (by omega) (by simp) ?_)
    intro ao' cap' w' hown' hkept
    have hb' := (Seq.way (w := w) (w' := w.alloc (.cells #[] 46)) (B := w.heap.size)).trans hkept.below
    have Hown := Lib.hid hown'
    clear hown hown' hkept hba
    go_wp2_with fail
    go_ret
    exact ⟨_, rfl, hb', Hown.out⟩

set_option maxHeartbeats 1600000 in
set_option maxRecDepth 100000 in
theorem setU_spec {S : Nat → Prop} {w : World} {v : Value} {l : List (Rule)} (hl : Seq (ruleE) S w v l) (hlen : l.length ≤ 1000000) :
    Calls Tryz.prog 39 #[v, .func (.func 40) #[] #[]] w (Ret (fun o w' => Seq (ruleE) (Fr S w) w' o (setL cmpU l)) w) := by
  have HL := Lib.hid hl
  obtain ⟨la, lc, rfl⟩ := hl.shape
  clear hl
  go_enter Tryz.func39, Tryz.ntmps39
  go_wp2_with fail
  refine (cloneU_spec (HL.out.at Seq.way) (by omega)).mono ?_
  rintro e w1 ⟨r1, rfl, hb1, ho1⟩
  have HO1 := Lib.hid ho1
  obtain ⟨a1, c1, rfl, -, -⟩ := ho1.shape
  have k0 : w1.cell? ⟨w.heap.size, 0, none⟩ = some (.func (.func 40) #[] #[]) := by rw [hb1.cell (by simp)]; simp
  have B1 := Lib.hid (below_step hb1 (Seq.way : Below w.heap.size w _))
  have l1 : w.heap.size < w1.heap.size := by have := hb1.size; simp at this; omega
  have hbs : w.heap.size + 1 ≤ w1.heap.size := l1
  have HO1' := Lib.hid (show Own (ruleE) _ (w.heap.size + 1) 46 w1 _ l by simpa using HO1.out)
  clear ho1 hb1 HO1
  go_wp2_with fail
  refine (sortRule_spec HO1'.out hbs hlen).mono ?_
  rintro e w2 ⟨rfl, hb2, l', hp, hs, ho2⟩
  have HO2 := Lib.hid ho2
  have k2 : w2.cell? ⟨w.heap.size, 0, none⟩ = some (.func (.func 40) #[] #[]) := (hb2.cell (p := ⟨w.heap.size, 0, none⟩) (Nat.lt_succ_self _)).trans k0
  have B2 := Lib.hid (B1.out.trans (hb2.mono (Nat.le_succ _)))
  have hl' := Lib.hid (hp.length_eq)
  have hset := Lib.hid (cpt_set cmpU_ok hp hs)
  have hbs2 : w.heap.size + 1 ≤ w2.heap.size := Nat.le_trans hbs hb2.size
  obtain ⟨a2, c2, he2, -, -⟩ := ho2.shape
  rw [hl'.out] at he2
  have hlen' := Lib.hid (show l'.length ≤ 1000000 by rw [hl'.out]; exact hlen)
  clear ho2 hb2 hp hs k0
  go_wp2_with fail
  refine (compactU_spec HO2.out hbs2 hlen'.out k2 (Nat.lt_succ_self _)).mono ?_
  rintro e w3 ⟨r3, rfl, hb3, ho3⟩
  have HO3 := Lib.hid ho3
  have B3 := Lib.hid (B2.out.trans (hb3.mono (Nat.le_succ _)))
  obtain ⟨a3, c3, rfl, -, -⟩ := ho3.shape
  have hfl := Lib.hid (show (cptL l').length ≤ 140737488355328 by have := cptL_len l'; have := hlen'.out; omega)
  clear ho3 hb3 k2
  go_wp2_with fail
  go_ret
  refine ⟨_, rfl, B3.out, ?_⟩
  rw [← hset.out]
  exact HO3.out.seq hfl.out fun b _ h => h.imp (fun h => h.1) fun h => by omega

set_option maxHeartbeats 3200000 in
set_option maxRecDepth 100000 in
theorem risesU_spec {S : Nat → Prop} {w : World} {v : Value} {l : List (Rule)} (hl : Seq (ruleE) S w v l) :
    Calls Tryz.prog 49 #[v, .func (.func 40) #[] #[]] w (RetV (.bool (riseB cmpU l)) w) := by
  have HL := Lib.hid hl
  obtain ⟨la, lc, rfl, -, -, hll, -⟩ := hl
  go_enter Tryz.func49, Tryz.ntmps49
  go_wp2_with fail
  go_loopw [5] (fun i wr => ∃ k : Nat, 1 ≤ k ∧ k ≤ l.length + 1 ∧ i = .int .i64 k ∧ Hid (∀ j (hj : j + 1 < l.length), j + 1 < k → cmpU l[j] l[j + 1] < 0) ∧ Hid (Below w.heap.size w wr)) (fun i _ => l.length + 1 - (intOf i).toNat)
  case atStart => exact ⟨1, Nat.le_refl _, by omega, rfl, Lib.hid (fun j _ h => absurd h (by omega)), Lib.hid (Below.refl _ _)⟩
  case round =>
    obtain ⟨k, hk1, hk, rfl, hno, hbr⟩ := hrel
    by_cases hlt : k < l.length
    · obtain ⟨j, rfl⟩ : ∃ j, k = j + 1 := ⟨k - 1, by omega⟩
      obtain ⟨_, _, ee, -, -, -, -, x5⟩ := (HL.out.at hbr.out)
      simp only [Value.slice.injEq, true_and] at ee
      obtain ⟨rfl, rfl⟩ := ee
      obtain ⟨b, off, pa, pc, na, nc, rfl, -, hb, hc0, hc1, hc2, hiok, hX1, hX2⟩ := x5.rule hlt
      have hX := (show RulV S wr (.agg #[.int .i64 l[j + 1].head, .slice pa l[j + 1].pos.length pc, .slice na l[j + 1].neg.length nc]) l[j + 1] from ⟨_, _, rfl, hiok, hX1, hX2⟩)
      obtain ⟨b2, off2, pa2, pc2, na2, nc2, e2, -, hb2, hd0, hd1, hd2, hiok2, hY1, hY2⟩ := x5.rule (k := j) (by omega)
      have hY := (show RulV S wr (.agg #[.int .i64 (l[j]'(by omega)).head, .slice pa2 (l[j]'(by omega)).pos.length pc2, .slice na2 (l[j]'(by omega)).neg.length nc2]) (l[j]'(by omega)) from ⟨_, _, rfl, hiok2, hY1, hY2⟩)
      clear hX1 hX2 hY1 hY2
      simp only [Option.some.injEq, Addr.mk.injEq, and_true] at e2
      obtain ⟨rfl, rfl⟩ := e2
      have hnot := Lib.hid (riseB_no (c := cmpU) hlt)
      have hyes := Lib.hid (fun h : cmpU (l[j]'(by omega)) l[j + 1] < 0 => show ∀ t (ht : t + 1 < l.length), t + 1 < j + 1 + 1 → cmpU l[t] l[t + 1] < 0 from fun t ht htk => by
        by_cases e : t = j
        · subst e; exact h
        · exact hno.out t ht (by omega))
      obtain ⟨x, hx⟩ : ∃ x, x = l[j + 1] := ⟨_, rfl⟩
      obtain ⟨y, hy⟩ : ∃ y, y = l[j]'(by omega) := ⟨_, rfl⟩
      rw [← hx] at hc0 hc1 hc2 hX hnot hyes
      rw [← hy] at hd0 hd1 hd2 hY hnot hyes
      have HX := Lib.hid hX
      have HY := Lib.hid hY
      clear hX hY
      have hkl : ((j + 1 : Nat) : Int) < (l.length : Int) := by omega
      have hk0 : (0 : Int) ≤ ((j + 1 : Nat) : Int) := by omega
      have hj0 : ((j + 1 : Nat) : Int) - 1 = (j : Int) := by omega
      have hkp1 : (j : Int) + 1 < (l.length : Int) := by omega
      have hkp0 : (0 : Int) ≤ (j : Int) + 1 := by omega
      have hkt : ((j : Int) + 1).toNat = j + 1 := by omega
      have hjn : (j : Int) < (l.length : Int) := by omega
      have hjn0 : (0 : Int) ≤ (j : Int) := by omega
      have hkw : IntKind.i64.wrap (j : Int) = (j : Int) := by rw [IntKind.wrap_i64]; omega
      clear x5 hx hy hno
      go_upto_region 4 with fail
      go_still_tail 10, (by kernel_rfl)
      go_wp2_with fail
      refine (orderP_spec (HY.out.at Seq.way) (HX.out.at Seq.way)).mono ?_
      rintro e w1 ⟨rfl, hb1, -⟩
      have B1 := Lib.hid (below_step (below_step hb1 (Seq.way : Below wr.heap.size wr _)) hbr.out)
      by_cases hcm : cmpU y x < 0
      · have hd1 : decide (cmpU y x ≥ 0) = false := by simp; omega
        have hd2 : decide (0 ≤ cmpU y x) = false := by simp; omega
        have hy' := Lib.hid (hyes.out hcm)
        clear hcm hnot hyes
        go_wp2_with fail
        go_roundw
        case rel => exact ⟨j + 2, by omega, by omega, by go_num, hy', B1⟩
        case measure => simp [intOf]; omega
      · have hd1 : decide (cmpU y x ≥ 0) = true := by simp; omega
        have hd2 : decide (0 ≤ cmpU y x) = true := by simp; omega
        have hn' := Lib.hid (hnot.out (by first | exact hcm | omega))
        clear hcm hnot hyes
        go_wp2_with fail
        go_ret
        exact ⟨ret_bool hn'.out.symm, B1.out⟩
    · have hkl : ¬ ((k : Int) < (l.length : Int)) := by omega
      have hres := Lib.hid (riseB_yes (c := cmpU) fun j hj => hno.out j hj (by omega))
      clear hno
      go_wp2_with fail
      go_ret
      exact ⟨ret_bool hres.out.symm, hbr.out⟩
end Go.Proofs.YtaedgpcmkagpeaaGreat
