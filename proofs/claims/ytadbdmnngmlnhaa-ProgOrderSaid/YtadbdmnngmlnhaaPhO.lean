/-
  Layer 7, the law: a row turned about.
  Layer 7, the law: what one leads to.
-/
import Derived.Test.YtadbdmnngmlnhaaPhN
import Derived.Test.YtadbdmnngmlnhaaPgC
import Derived.Test.YtadbdmnngmlnhaaPgL
namespace Go.Proofs.Ytadbdmnngmlnhaa
section
open Go Go.RowKit

set_option maxHeartbeats 6400000 in
set_option maxRecDepth 100000 in
theorem turn_spec {S : Nat → Prop} {w : World} {v : Value} {l : List Cls} {a : Nat} (hl : Seq clsE S w v l) (hlen : l.length ≤ 1000) (ha : a < 256) (hne : 0 < l.length) :
    Calls Try.prog 34 #[v, .int .u8 a] w (Ret (fun r w' => Own clsE (fun b => S b ∧ b < w.heap.size) w.heap.size 31 w' r (turnL l (a % l.length))) w) := by
  have HL := Lib.hid hl.bnd
  obtain ⟨la, lc, rfl, hc1, hc2, -, hnn, -⟩ := hl
  have had : ∃ ad, la = some ad := by
    cases la with
    | none => have := hnn rfl; omega
    | some ad => exact ⟨ad, rfl⟩
  obtain ⟨ad, rfl⟩ := had
  obtain ⟨k, hk⟩ : ∃ k, k = a % l.length := ⟨_, rfl⟩
  have hkl : k < l.length := by rw [hk]; exact Nat.mod_lt _ hne
  have hkm : (a : Int) % (l.length : Int) = (k : Int) := by rw [hk]; omega
  have hkt : Int.tmod (a : Int) (l.length : Int) = (k : Int) := by rw [← hkm]; exact Int.tmod_eq_emod_of_nonneg (by omega)
  have Hk := Lib.hid hk
  have h0 : ((l.length : Int) == 0) = false := beq_eq_false_iff_ne.2 (by omega)
  have h00 : ((l.length : Int) = 0) = False := eq_false (by omega)
  have hkI : (k : Int) < (l.length : Int) := by omega
  have hkI2 : (k : Int) ≤ (l.length : Int) := by omega
  have hk0 : (0 : Int) ≤ (k : Int) := by omega
  have hklc : k ≤ lc := by omega
  have hcne : ¬ lc = k := by omega
  have Hd := Lib.hid (HL.out.drop (i := k) (by omega) (n := l.length - k) (c := lc - k) rfl rfl rfl)
  have Ht := Lib.hid (HL.out.take (j := k) (by omega))
  rw [if_neg hcne] at Hd
  clear hk hnn
  go_enter Try.func34, Try.ntmps34
  go_upto_region 4 with fail
  (try simp only [List.append_eq, List.cons_append, List.nil_append])
  refine wp_region_noPanic ?_
  refine wp_region_held_drew (S := fun _ => True) (by kernel_rfl) trivial (fun hHeld => ?_)
  refine wpAnyH_take1 (i := 1) (oi := _) (v := ?_) (by kernel_rfl) rfl (by kernel_rfl) (fun _ _ _ h => h) (Or.inl ⟨by rfl, ?_⟩) (by assumption) ?_
  rotate_left 1
  · intro w hSw; (try dsimp only at hSw); go_simp; (with_reducible rfl)
  (try simp only [Act.put, List.getElem_toArray, List.getElem_cons_zero, List.getElem_cons_succ, List.setIfInBounds_toArray, List.set_cons_zero, List.set_cons_succ])
  refine wpAnyH_take1 (i := 2) (oi := _) (v := ?_) (by kernel_rfl) rfl (by kernel_rfl) (fun _ _ _ h => h) (Or.inl ⟨by rfl, ?_⟩) (by assumption) ?_
  rotate_left 1
  · intro w hSw; (try dsimp only at hSw); go_simp; (with_reducible rfl)
  (try simp only [Act.put, List.getElem_toArray, List.getElem_cons_zero, List.getElem_cons_succ, List.setIfInBounds_toArray, List.set_cons_zero, List.set_cons_succ])
  refine wpAnyH_take1 (i := 3) (oi := _) (v := ?_) (by kernel_rfl) rfl (by kernel_rfl) (fun _ _ _ h => h) (Or.inl ⟨by rfl, ?_⟩) (by assumption) ?_
  rotate_left 1
  · intro w hSw; (try dsimp only at hSw); go_simp; (with_reducible rfl)
  (try simp only [Act.put, List.getElem_toArray, List.getElem_cons_zero, List.getElem_cons_succ, List.setIfInBounds_toArray, List.set_cons_zero, List.set_cons_succ])
  refine wpAnyH_take1 (i := 5) (oi := _) (v := ?_) (by kernel_rfl) rfl (by kernel_rfl) (fun _ _ _ h => h) (Or.inl ⟨by rfl, ?_⟩) (by assumption) ?_
  rotate_left 1
  · intro w hSw; (try dsimp only at hSw); go_simp; (with_reducible rfl)
  (try simp only [Act.put, List.getElem_toArray, List.getElem_cons_zero, List.getElem_cons_succ, List.setIfInBounds_toArray, List.set_cons_zero, List.set_cons_succ])
  refine wpAnyH_take1 (i := 6) (oi := _) (v := ?_) (by kernel_rfl) rfl (by kernel_rfl) (fun _ _ _ h => h) (Or.inl ⟨by rfl, ?_⟩) (by assumption) ?_
  rotate_left 1
  · intro w hSw; (try dsimp only at hSw); go_simp; (with_reducible rfl)
  (try simp only [Act.put, List.getElem_toArray, List.getElem_cons_zero, List.getElem_cons_succ, List.setIfInBounds_toArray, List.set_cons_zero, List.set_cons_succ])
  refine wpAnyH_take1 (i := 7) (oi := _) (v := ?_) (by kernel_rfl) rfl (by kernel_rfl) (fun _ _ _ h => h) (Or.inl ⟨by rfl, ?_⟩) (by assumption) ?_
  rotate_left 1
  · intro w hSw; (try dsimp only at hSw); go_simp; (with_reducible rfl)
  (try simp only [Act.put, List.getElem_toArray, List.getElem_cons_zero, List.getElem_cons_succ, List.setIfInBounds_toArray, List.set_cons_zero, List.set_cons_succ])
  refine wpAnyH_one (i := 0) (by kernel_rfl) rfl (by rfl) fun K hK => ?_
  go_simp
  (try dsimp only)
  clear hHeld
  refine hK.out _ _ trivial fun hHeld => ?_
  clear hK K
  (try simp only [Act.put, List.getElem_toArray, List.getElem_cons_zero, List.getElem_cons_succ, List.setIfInBounds_toArray, List.set_cons_zero, List.set_cons_succ])
  obtain ⟨W0, hW0⟩ : ∃ W0, W0 = (w.alloc (.cells #[] 31)).drew := ⟨_, rfl⟩
  have hb0 : Below w.heap.size w W0 := by rw [hW0]; exact Seq.way
  have hO0 : Own clsE (fun b => S b ∧ b < w.heap.size) w.heap.size 31 W0 (.slice (some ⟨w.heap.size, 0, none⟩) 0 0) ([] : List Cls) := by rw [hW0]; exact (Own.lit0 rfl (Nat.le_refl _) rfl).move Seq.way
  rw [← hW0]
  refine wpAnyH_one (i := 4) (by kernel_rfl) rfl (by rfl) fun K hK => ?_
  refine wp_appS (E := clsE) (S := fun b => S b ∧ b < w.heap.size) (wm := W0) (ys := l.drop k) _ _ 22 rfl Try.underlying22 infoCls rfl rfl hO0 (Below.refl _ _) (by rw [List.length_drop]; rfl) (by have := Hd.out.at hb0; rw [List.length_drop]; exact this) (fun b h _ => ⟨h, .inl h.2⟩) (by omega) (by simp; omega) hb0.size ?_
  intro ao1 cap1 w1 hown1 hk1
  clear hHeld
  refine hK.out _ _ trivial fun hHeld => ?_
  clear hK K
  (try simp only [Act.put, List.getElem_toArray, List.getElem_cons_zero, List.getElem_cons_succ, List.setIfInBounds_toArray, List.set_cons_zero, List.set_cons_succ])
  have hb1 : Below w.heap.size w w1 := hb0.trans hk1.below
  refine wpAnyH_one (i := 8) (by kernel_rfl) rfl (by rfl) fun K hK => ?_
  refine wp_appS (E := clsE) (S := fun b => S b ∧ b < w.heap.size) (wm := w1) (ys := l.take k) _ _ 22 rfl Try.underlying22 infoCls rfl rfl hown1 (Below.refl _ _) (by rw [List.length_take, Nat.min_eq_left (by omega)]; rfl) (by have := Ht.out.at hb1; rw [List.length_take, Nat.min_eq_left (by omega)]; exact this) (fun b h _ => ⟨h, .inl h.2⟩) (by omega) (by simp; omega) hb1.size ?_
  intro ao2 cap2 w2 hown2 hk2
  clear hHeld
  refine hK.out _ _ trivial fun hHeld => ?_
  clear hK K
  (try simp only [Act.put, List.getElem_toArray, List.getElem_cons_zero, List.getElem_cons_succ, List.setIfInBounds_toArray, List.set_cons_zero, List.set_cons_succ])
  have hb2 : Below w.heap.size w w2 := hb1.trans hk2.below
  refine wpAnyH_take1 (i := 9) (oi := _) (v := ?_) (by kernel_rfl) rfl (by kernel_rfl) (fun _ _ _ h => h) (Or.inl ⟨by rfl, ?_⟩) (by assumption) ?_
  rotate_left 1
  · intro w hSw; (try dsimp only at hSw); go_simp; (with_reducible rfl)
  (try simp only [Act.put, List.getElem_toArray, List.getElem_cons_zero, List.getElem_cons_succ, List.setIfInBounds_toArray, List.set_cons_zero, List.set_cons_succ])
  refine wpAnyH_done (by kernel_rfl) ?_ _
  refine NoPanic.normal ?_
  have Ho2 := Lib.hid hown2
  have Hb2 := Lib.hid hb2
  clear hown2 hown1 hk1 hk2 hO0 hHeld
  go_wp2_with fail
  go_ret
  refine ⟨_, rfl, Hb2.out, ?_⟩
  rw [← Hk.out]
  have h9 := Ho2.out
  rw [List.nil_append, List.length_drop, List.length_take] at h9
  exact h9
end
section
open Go Go.RowKit

theorem infoBool : (Try.prog.info? 4).map (fun i => (i.zero, i.size, i.bytes)) = some (some (.bool false), 1, 1) := by kernel_rfl
theorem soB_get {s : List Bool} {i : Nat} (h : i < s.length) : soB s i = s[i] := by unfold soB; simp [h]
theorem sweep_succ {K : List Lnk} {f : Nat} {s : List Bool} {j : Nat} (h : j < K.length) : (K.take (j + 1)).foldl (leadS f) s = leadS f ((K.take j).foldl (leadS f) s) K[j] := by
  rw [List.take_succ_eq_append_getElem h, List.foldl_append]; rfl
theorem leadS_yes {f : Nat} {s : List Bool} {k : Lnk} (h : k.fr = f ∨ soB s k.fr = true) : leadS f s k = s.set k.to true := by unfold leadS; rw [if_pos h]
theorem leadS_no {f : Nat} {s : List Bool} {k : Lnk} (h : ¬ k.fr = f) (h2 : soB s k.fr = false) : leadS f s k = s := by
  unfold leadS
  rw [if_neg]
  rintro (e | e)
  · exact h e
  · rw [h2] at e; cases e
theorem folds_len {K : List Lnk} {f : Nat} : ∀ (L : List Lnk) (s : List Bool), (L.foldl (leadS f) s).length = s.length
  | [], _ => rfl
  | k :: L, s => by rw [List.foldl_cons, folds_len (K := K) L, leadS_len]

set_option maxHeartbeats 6400000 in
set_option maxRecDepth 100000 in
theorem leads_spec {S : Nat → Prop} {w : World} {v : Value} {K : List Lnk} {f n : Nat} (hK : Seq lnkE S w v K) (hr : RngK K n) (_ : f ≤ 1000000) (hn : n ≤ 1000000) :
    Calls Try.prog 36 #[v, .int .i64 f, .int .i64 n] w (Ret (fun r w' => Seq boolE (fun b => w.heap.size ≤ b) w' r (sweepsS K f (n + 1) (List.replicate n false))) w) := by
  have HK := Lib.hid hK.bnd
  have Hr := Lib.hid hr
  obtain ⟨ka, kc, rfl, -, -, hkl, -, -⟩ := hK
  have hsl := Lib.hid (fun m => sweeps_len (f := f) (fun k hk => (hr k hk).2) (s := List.replicate n false) (by simp) m)
  have hn0 : (0 : Int) ≤ (n : Int) := by omega
  have hnm : n ≤ 140737488355328 := by omega
  have hmk := run_make_row' (P := Try.prog) 58 4 (.bool false) 1 Try.underlying58 infoBool rfl .i64 .i64 n (by omega) (by omega)
  clear hr
  go_enter Try.func36, Try.ntmps36
  go_wp2_with fail
  clear hmk
  have hR0 := Lib.hid (RowB.made w n 4 rfl)
  have hb0 := Lib.hid (Seq.way : Below w.heap.size w (w.alloc (.cells (madeCells #[.bool false] n) 4)))
  go_loopw [8] (fun i wr => ∃ m : Nat, m ≤ n + 1 ∧ i = .int .i64 m ∧ Hid (RowB 4 wr w.heap.size (sweepsS K f m (List.replicate n false))) ∧ Hid (Below w.heap.size w wr)) (fun i _ => n + 1 - (intOf i).toNat)
  case atStart => exact ⟨0, Nat.zero_le _, rfl, hR0, hb0⟩
  case round =>
    obtain ⟨m, hm, rfl, hR, hbr⟩ := hrel
    clear hR0 hb0
    have hm0 : (0 : Int) ≤ (m : Int) := by omega
    by_cases hle : m ≤ n
    · have hmI : (m : Int) ≤ (n : Int) := by omega
      have hl := hsl.out m
      obtain ⟨s0, hs0⟩ : ∃ s, s = sweepsS K f m (List.replicate n false) := ⟨_, rfl⟩
      rw [← hs0] at hR hl
      have Hs0 := Lib.hid hs0
      have Hl := Lib.hid hl
      clear hs0 hl
      go_wp2_with fail
      go_loopw [9] (fun i wz => ∃ (j : Nat) (s : List Bool), j ≤ K.length ∧ i = .int .i64 j ∧ Hid (s = (K.take j).foldl (leadS f) s0) ∧ Hid (s.length = n) ∧ Hid (RowB 4 wz w.heap.size s) ∧ Hid (Below w.heap.size w wz)) (fun i _ => K.length - (intOf i).toNat)
      case atStart => exact ⟨0, s0, Nat.zero_le _, rfl, Lib.hid rfl, Hl, hR, hbr⟩
      case round =>
        clear hR hbr
        obtain ⟨j, s, hj, rfl, hse, hsn, hRz, hbz⟩ := hrel
        by_cases hlt : j < K.length
        · obtain ⟨_, _, ee, -, -, -, -, x5⟩ := HK.out
          simp only [Value.slice.injEq, true_and] at ee
          obtain ⟨rfl, rfl⟩ := ee
          obtain ⟨b1, o1, rfl, -, l1, c0, c1, -, -, -⟩ := x5.lnk hlt
          replace c0 : wr.cell? ⟨b1, o1 + j * 3, none⟩ = _ := (hbz.out.cell (p := ⟨b1, o1 + j * 3, none⟩) l1).trans c0
          replace c1 : wr.cell? ⟨b1, o1 + j * 3 + 1, none⟩ = _ := (hbz.out.cell (p := ⟨b1, o1 + j * 3 + 1, none⟩) l1).trans c1
          obtain ⟨f1, f2⟩ := Hr.out _ (List.getElem_mem hlt)
          have hst := Lib.hid (sweep_succ (f := f) (s := s0) hlt)
          rw [← hse.out] at hst
          obtain ⟨x, hx⟩ : ∃ x, x = K[j] := ⟨_, rfl⟩
          rw [← hx] at c0 c1 hst f1 f2
          have e0 := hRz.out.cell (j := x.fr) (by rw [hsn.out]; exact f1)
          rw [← soB_get] at e0
          have e1 := hRz.out.cell (j := x.2) (by rw [hsn.out]; exact f2)
          have e2 := hRz.out.frozen x.2
          generalize s[x.2]'(by rw [hsn.out]; exact f2) = old at e1
          have hjI : (j : Int) < (K.length : Int) := by omega
          have hj0 : (0 : Int) ≤ (j : Int) := by omega
          have hf1 : (x.fr : Int) < (n : Int) := by omega
          have hf2 : (x.2 : Int) < (n : Int) := by omega
          have hf3 : (0 : Int) ≤ (x.fr : Int) := by omega
          have hf4 : (0 : Int) ≤ (x.2 : Int) := by omega
          have hll := Lib.hid (leadS_len f s x)
          have hset := Lib.hid (hRz.out.set x.2 true)
          have hby := Lib.hid (fun h => leadS_yes (f := f) (s := s) (k := x) h)
          have hbn := Lib.hid (fun h h2 => leadS_no (f := f) (s := s) (k := x) h h2)
          obtain ⟨q, hq⟩ : ∃ q, q = soB s x.fr := ⟨_, rfl⟩
          rw [← hq] at e0 hby hbn
          have hbst := Lib.hid (show Below w.heap.size w (wr.setCell ⟨w.heap.size, x.2, none⟩ (.bool true)) from hbz.out.setCell (Nat.le_refl _) _)
          clear hx x5 hq
          by_cases hef : x.fr = f
          · have hn1 : ((x.fr : Int) == (f : Int)) = true := by simp; omega
            have hyes := Lib.hid (hby.out (.inl hef))
            clear hby hbn hef
            go_wp2_with fail
            go_roundw
            case rel => exact ⟨j + 1, leadS f s x, hlt, by go_num, Lib.hid hst.out.symm, Lib.hid (hll.out.trans hsn.out), Lib.hid (by rw [hyes.out]; exact hset.out), hbst⟩
            case measure => simp [intOf]; omega
          · have hn1 : ((x.fr : Int) == (f : Int)) = false := by simp; omega
            have hno := Lib.hid (hbn.out hef)
            clear hbn hef
            cases q
            · have hno2 := Lib.hid (hno.out rfl)
              clear hby hno hset hbst
              go_wp2_with fail
              go_roundw
              case rel => exact ⟨j + 1, s, hlt, by go_num, Lib.hid (by rw [hst.out, hno2.out]), hsn, hRz, hbz⟩
              case measure => simp [intOf]; omega
            · have hyes := Lib.hid (hby.out (.inr rfl))
              clear hby hno
              go_wp2_with fail
              go_roundw
              case rel => exact ⟨j + 1, leadS f s x, hlt, by go_num, Lib.hid hst.out.symm, Lib.hid (hll.out.trans hsn.out), Lib.hid (by rw [hyes.out]; exact hset.out), hbst⟩
              case measure => simp [intOf]; omega
        · have hje := Lib.hid (show s = sweepsS K f (m + 1) (List.replicate n false) by
            rw [hse.out, List.take_of_length_le (by omega), Hs0.out]; rfl)
          have hjI : ¬ (j : Int) < (K.length : Int) := by omega
          clear hlt
          go_wp2_with fail
          go_roundw
          case rel => exact ⟨m + 1, by omega, by go_num, Lib.hid (by rw [← hje.out]; exact hRz.out), hbz⟩
          case measure => simp [intOf]; omega
    · have hme := Lib.hid (show m = n + 1 by omega)
      have hmI : ¬ (m : Int) ≤ (n : Int) := by omega
      clear hle
      go_wp2_with fail
      go_ret
      refine ⟨_, rfl, hbr.out, ?_⟩
      have h9 := hR.out
      rw [hme.out] at h9
      exact h9.seq (hsl.out (n + 1)).symm (Nat.le_refl _) (by unfold maxLen; omega) (by rw [hsl.out]; omega) (Nat.le_refl _)
end
end Go.Proofs.Ytadbdmnngmlnhaa
