/-
  Layer 16, the document: places (Find, places, Place), sets of numbers (set), an atom's rules (Of).
-/
import Derived.Test.YtaedgpcmkagpeaaGreatGsD
import Derived.Deep.CutBlock
import Derived.Deep.DeepCutAuto
namespace Go.Proofs.YtaedgpcmkagpeaaGreat
open Go Go.RowKit

theorem posT_hit {A : List (List Cell)} {t : List Cell} {k : Nat} (hk : k < A.length) (h : A[k] = t) (hno : ∀ j (hj : j < A.length), j < k → A[j] ≠ t) : posT A t = (k : Int) := by
  have he : A.idxOf t = k := by
    unfold List.idxOf
    exact (List.findIdx_eq hk).2 ⟨by simp [h], fun j hj => by simpa using hno j (by omega) hj⟩
  unfold posT
  rw [if_pos (h ▸ List.getElem_mem hk), he]
theorem posT_miss {A : List (List Cell)} {t : List Cell} (h : ∀ j (hj : j < A.length), A[j] ≠ t) : posT A t = -1 :=
  posT_no fun hm => by
    obtain ⟨k, hk, e⟩ := List.mem_iff_getElem.1 hm
    exact h k hk e

theorem own_intS {S T : Nat → Prop} {base : Nat} {e : TypeId} {w : World} {v : Value} {xs : List Int} (h : Own intE S base e w v xs) : Own intE T base e w v xs := by
  obtain ⟨vs, h1, h2⟩ := h
  exact ⟨vs, h1, fun k x hx => h2 k x hx⟩
theorem ProgV.at {S : Nat → Prop} {w w' : World} {v : Value} {g : Prog} (h : ProgV S w v g) (hb : Below w.heap.size w w') : ProgV S w' v g := h.mono (fun _ h _ => h) fun b _ hlt => hb.block b hlt

set_option maxHeartbeats 3200000 in
set_option maxRecDepth 100000 in
theorem FindR_spec {S T : Nat → Prop} {w : World} {v u : Value} {g : Prog} {t : List Cell} (hg : ProgV S w v g) (ht : Seq cellE T w u t) :
    Calls Tryz.prog 20 #[v, u] w (RetV (.int .i64 (posT g.atoms t)) w) := by
  obtain ⟨va, vr, rfl, hA, hR⟩ := hg
  have HA := Lib.hid hA
  have HT := Lib.hid ht
  obtain ⟨ra, rc, rfl⟩ := hR.shape
  obtain ⟨ta, tc, rfl⟩ := ht.shape
  obtain ⟨A, hAe⟩ : ∃ A, A = g.atoms := ⟨_, rfl⟩
  rw [← hAe] at HA hA ⊢
  have hal : A.length ≤ 140737488355328 := by obtain ⟨_, _, _, _, _, h, _⟩ := hA; exact h
  obtain ⟨aa, ac, rfl⟩ := hA.shape
  clear hA hAe hR ht
  obtain ⟨W, hW⟩ : ∃ W, W = w.alloc (.cells #[.slice aa A.length ac, .slice ra g.rules.length rc] 26) := ⟨_, rfl⟩
  have HB := Lib.hid (show Below w.heap.size w W by rw [hW]; exact Seq.way)
  have HP := Lib.hid (show Row 26 W w.heap.size [.slice aa A.length ac, .slice ra g.rules.length rc] by rw [hW]; exact Row.new w [_, _] _ rfl)
  have HW := Lib.hid hW
  clear hW
  go_enter Tryz.func20, Tryz.ntmps20
  go_wp2_with fail
  rw [← HW.out]
  go_loopw [5] (fun i wr => ∃ k : Nat, k ≤ A.length ∧ i = .int .i64 k ∧ Hid (∀ j (hj : j < A.length), j < k → A[j] ≠ t) ∧ Hid (Below W.heap.size W wr)) (fun i _ => A.length - (intOf i).toNat)
  case atStart => exact ⟨0, Nat.zero_le _, rfl, Lib.hid (fun j _ h => absurd h (Nat.not_lt_zero _)), Lib.hid (Below.refl _ _)⟩
  case round =>
    obtain ⟨k, hk, rfl, hno, hbr⟩ := hrel
    have hbw := Lib.hid (below_step hbr.out HB.out)
    have HPr := Lib.hid (rowTo HP.out hbr.out)
    have c0 := HPr.out.cell (j := 0) (by simp)
    simp only [List.getElem_cons_zero] at c0
    by_cases hlt : k < A.length
    · obtain ⟨_, _, ee, -, -, -, -, x5⟩ := (HA.out.at hbw.out)
      simp only [Value.slice.injEq, true_and] at ee
      obtain ⟨rfl, rfl⟩ := ee
      obtain ⟨b, off, p1, n1, rfl, -, hb, hc, hX⟩ := x5.seq hlt
      have HX := Lib.hid hX
      have hhit := Lib.hid (fun h : A[k] = t => posT_hit hlt h hno.out)
      have hnx := Lib.hid (fun h : A[k] ≠ t => show ∀ j (hj : j < A.length), j < k + 1 → A[j] ≠ t from fun j hj hjk => by
        by_cases e : j = k
        · subst e; exact h
        · exact hno.out j hj (by omega))
      obtain ⟨x, hx⟩ : ∃ x, x = A[k] := ⟨_, rfl⟩
      rw [← hx] at hc HX hhit hnx
      have hkl : (k : Int) < (A.length : Int) := by omega
      have hk0 : (0 : Int) ≤ (k : Int) := by omega
      clear hX hx x5 hno
      go_wp2_with fail
      refine (SameT_spec HX.out (HT.out.at hbw.out)).mono ?_
      rintro e w1 ⟨rfl, hq⟩
      have hb1 := Lib.hid (below_step (hq.below wr.heap.size) hbr.out)
      by_cases he : x = t
      · have hh := Lib.hid (hhit.out he)
        rw [decide_eq_true he]
        clear he hhit hnx
        go_wp2_with fail
        go_ret
        exact ⟨ret_int hh.out.symm, below_step hb1.out HB.out⟩
      · have hn2 := Lib.hid (hnx.out he)
        rw [decide_eq_false he]
        clear he hhit hnx
        go_wp2_with fail
        go_roundw
        case rel => exact ⟨k + 1, hlt, by go_num, hn2, hb1⟩
        case measure => simp [intOf]; omega
    · have hm := Lib.hid (posT_miss fun j hj => hno.out j hj (by omega))
      have hkl : ¬ (k : Int) < (A.length : Int) := by omega
      clear hno
      go_wp2_with fail
      go_ret
      exact ⟨ret_int hm.out.symm, hbw.out⟩

theorem posT_int (A : List (List Cell)) (hA : A.length ≤ 140737488355328) (t : List Cell) : IntOK (posT A t) := by
  have := posT_rng A t
  exact ⟨by omega, by omega⟩
set_option maxHeartbeats 3200000 in
set_option maxRecDepth 100000 in
theorem placesR_spec {S T : Nat → Prop} {w : World} {v u : Value} {g : Prog} {l : List (List Cell)} (hg : ProgV S w v g) (hl : Seq (seqE cellE) T w u l) (hlen : l.length ≤ 1000000) :
    Calls Tryz.prog 43 #[v, u] w (Ret (fun o w' => Seq intE (fun b => w.heap.size ≤ b) w' o (placesT g.atoms l)) w) := by
  have HG := Lib.hid hg
  have HL := Lib.hid hl
  have hga : Hid (g.atoms.length ≤ 140737488355328) := by obtain ⟨_, _, _, ⟨_, _, _, _, _, h, _⟩, _⟩ := hg; exact Lib.hid h
  obtain ⟨va, vr, rfl, hA, hR⟩ := hg
  obtain ⟨ra, rc, rfl⟩ := hR.shape
  obtain ⟨aa, ac, rfl⟩ := hA.shape
  obtain ⟨la, lc, rfl⟩ := hl.shape
  clear hA hR hl
  obtain ⟨W, hW⟩ : ∃ W, W = w.alloc (.cells #[.slice aa g.atoms.length ac, .slice ra g.rules.length rc] 26) := ⟨_, rfl⟩
  have HB := Lib.hid (show Below w.heap.size w W by rw [hW]; exact Seq.way)
  have hzW := Lib.hid (show W.heap.size = w.heap.size + 1 by rw [hW]; simp)
  have HP := Lib.hid (show Row 26 W w.heap.size [.slice aa g.atoms.length ac, .slice ra g.rules.length rc] by rw [hW]; exact Row.new w [_, _] _ rfl)
  have HW := Lib.hid hW
  clear hW
  go_enter Tryz.func43, Tryz.ntmps43
  go_wp2_with fail
  rw [← HW.out]
  go_loopw [5, 6] (fun o i wr => ∃ k : Nat, k ≤ l.length ∧ i = .int .i64 k ∧ Hid (Seq intE (fun b => w.heap.size ≤ b) wr o (placesT g.atoms (l.take k))) ∧ Hid (Below W.heap.size W wr)) (fun _ i _ => l.length - (intOf i).toNat)
  case atStart => exact ⟨0, Nat.zero_le _, rfl, Lib.hid ((Own.lit0 (E := intE) (S := fun _ => False) (e := 3) (w := W) hzW.out.symm (Nat.le_refl _) rfl).seq (by simp) (fun b _ hb => hb.elim False.elim fun h => by have := hzW.out; omega)), Lib.hid Seq.way⟩
  case round =>
    obtain ⟨k, hk, rfl, hO, hbr⟩ := hrel
    have hbw := Lib.hid (below_step hbr.out HB.out)
    have HPr := Lib.hid (rowTo HP.out hbr.out)
    have lP := HPr.out.lt
    have d0 := HPr.out.cell (j := 0) (by simp)
    have d1 := HPr.out.cell (j := 1) (by simp)
    simp only [List.getElem_cons_zero, List.getElem_cons_succ] at d0 d1
    by_cases hlt : k < l.length
    · obtain ⟨_, _, ee, -, -, -, -, x5⟩ := (HL.out.at hbw.out)
      simp only [Value.slice.injEq, true_and] at ee
      obtain ⟨rfl, rfl⟩ := ee
      obtain ⟨b, off, p1, n1, rfl, -, hb, hc, hX⟩ := x5.seq hlt
      have HX := Lib.hid hX
      have hst := Lib.hid (show placesT g.atoms (l.take (k + 1)) = insC cmpZ (posT g.atoms l[k]) (placesT g.atoms (l.take k)) by unfold placesT; rw [List.take_succ_eq_append_getElem hlt, List.map_append]; exact setL_snoc _ _)
      have hpl := Lib.hid (show (placesT g.atoms (l.take k)).length ≤ 1000000 by unfold placesT; have := setL_le (c := cmpZ) ((l.take k).map (posT g.atoms)); rw [List.length_map, List.length_take] at this; omega)
      obtain ⟨oa, oc, rfl⟩ := hO.out.shape
      obtain ⟨x, hx⟩ : ∃ x, x = l[k] := ⟨_, rfl⟩
      rw [← hx] at hc HX hst
      obtain ⟨Q, hQ⟩ : ∃ Q, Q = placesT g.atoms (l.take k) := ⟨_, rfl⟩
      rw [← hQ] at hO hst hpl ⊢
      have hkl : (k : Int) < (l.length : Int) := by omega
      have hk0 : (0 : Int) ≤ (k : Int) := by omega
      have HOb := Lib.hid hO.out.bnd
      clear hX hx x5 hQ
      go_upto_region 5 with fail
      have Hkeep := fun {W : World} (hW : Below wr.heap.size wr W) => Lib.hid (show W.cell? ⟨w.heap.size, 0, none⟩ = some (.slice aa g.atoms.length ac) ∧ W.cell? ⟨w.heap.size, 1, none⟩ = some (.slice ra g.rules.length rc) ∧ W.cell? ⟨b, off + k, none⟩ = some (.slice p1 x.length n1) from ⟨(hW.cell (p := ⟨w.heap.size, 0, none⟩) lP).trans d0, (hW.cell (p := ⟨w.heap.size, 1, none⟩) lP).trans d1, (hW.cell (p := ⟨b, off + k, none⟩) hb).trans hc⟩)
      (try simp only [List.append_eq, List.cons_append, List.nil_append])
      refine wp_region_noPanic ?_
      refine wp_region_held_drew (S := fun w' => w'.cell? ⟨w.heap.size, 0, none⟩ = some (.slice aa g.atoms.length ac) ∧ w'.cell? ⟨w.heap.size, 1, none⟩ = some (.slice ra g.rules.length rc) ∧ w'.cell? ⟨b, off + k, none⟩ = some (.slice p1 x.length n1)) (by kernel_rfl) ?_ (fun hHeld => ?_)
      · exact (Hkeep (Below.drew (Below.refl _ _))).out
      refine wpAnyH_take1 (i := 0) (oi := _) (v := ?_) (by kernel_rfl) rfl (by kernel_rfl) (fun _ _ _ h => h) (Or.inl ⟨by rfl, ?_⟩) (by assumption) ?_
      rotate_left 1
      · intro w hSw; (try dsimp only at hSw); go_simp; (with_reducible rfl)
      (try simp only [Act.put, List.getElem_toArray, List.getElem_cons_zero, List.setIfInBounds_toArray, List.set_cons_zero, List.set_cons_succ])
      refine wpAnyH_take1 (i := 1) (oi := _) (v := ?_) (by kernel_rfl) rfl (by kernel_rfl) (fun _ _ _ h => h) (Or.inl ⟨by rfl, ?_⟩) (by assumption) ?_
      rotate_left 1
      · intro w hSw; (try dsimp only at hSw); go_simp; (with_reducible rfl)
      (try simp only [Act.put, List.getElem_toArray, List.getElem_cons_zero, List.getElem_cons_succ, List.setIfInBounds_toArray, List.set_cons_zero, List.set_cons_succ])
      refine wpAnyH_take1 (i := 2) (oi := _) (v := ?_) (by kernel_rfl) rfl (by kernel_rfl) (fun _ _ _ h => h) (Or.inl ⟨by rfl, ?_⟩) (by assumption) ?_
      rotate_left 1
      · intro w hSw; (try dsimp only at hSw); go_simp; (with_reducible rfl)
      (try simp only [Act.put, List.getElem_toArray, List.getElem_cons_zero, List.getElem_cons_succ, List.setIfInBounds_toArray, List.set_cons_zero, List.set_cons_succ])
      refine wpAnyH_take1 (i := 3) (oi := _) (v := ?_) (by kernel_rfl) rfl (by kernel_rfl) (fun _ _ _ h => h) (Or.inl ⟨by rfl, ?_⟩) (by assumption) ?_
      rotate_left 1
      · intro w hSw; (try dsimp only at hSw); go_simp; (with_reducible rfl)
      (try simp only [Act.put, List.getElem_toArray, List.getElem_cons_zero, List.getElem_cons_succ, List.setIfInBounds_toArray, List.set_cons_zero, List.set_cons_succ])
      refine wpAnyH_take1 (i := 4) (oi := _) (v := ?_) (by kernel_rfl) rfl (by kernel_rfl) (fun _ _ _ h => h) (Or.inl ⟨by rfl, ?_⟩) (by assumption) ?_
      rotate_left 1
      · intro w hSw; (try dsimp only at hSw); go_simp; (with_reducible rfl)
      (try simp only [Act.put, List.getElem_toArray, List.getElem_cons_zero, List.getElem_cons_succ, List.setIfInBounds_toArray, List.set_cons_zero, List.set_cons_succ])
      refine wpAnyH_take1 (i := 5) (oi := _) (v := ?_) (by kernel_rfl) rfl (by kernel_rfl) (fun _ _ _ h => h) (Or.inl ⟨by rfl, ?_⟩) (by assumption) ?_
      rotate_left 1
      · intro w hSw; (try dsimp only at hSw); go_simp; (with_reducible rfl)
      (try simp only [Act.put, List.getElem_toArray, List.getElem_cons_zero, List.getElem_cons_succ, List.setIfInBounds_toArray, List.set_cons_zero, List.set_cons_succ])
      refine wpAnyH_one (i := 6) (by kernel_rfl) rfl (by rfl) fun K hK => ?_
      go_simp
      refine ((FindR_spec ((HG.out.at hbw.out).at Seq.way) (HX.out.at Seq.way))).mono ?_
      rintro e y1 ⟨rfl, hy1⟩
      have HY1 := below_step hy1 (Seq.way : Below wr.heap.size wr _)
      have zy1 := HY1.size
      (try dsimp only)
      clear hHeld
      refine hK.out _ _ (Hkeep HY1).out fun hHeld => ?_
      clear hK K
      (try simp only [Act.put, List.getElem_toArray, List.getElem_cons_zero, List.getElem_cons_succ, List.setIfInBounds_toArray, List.set_cons_zero, List.set_cons_succ])
      refine wpAnyH_one (i := 7) (by kernel_rfl) rfl (by rfl) fun K hK => ?_
      go_simp
      refine ((PutZ_spec (HOb.out.at Seq.way) (posT_int _ hga.out _) hpl.out)).mono ?_
      rintro e y2 ⟨_, rfl, hy2, hz2⟩
      have HY2 := below_step hy2 (Seq.way : Below wr.heap.size wr _)
      have zy2 := HY2.size
      (try dsimp only)
      clear hHeld
      refine hK.out _ _ (Hkeep HY2).out fun hHeld => ?_
      clear hK K
      (try simp only [Act.put, List.getElem_toArray, List.getElem_cons_zero, List.getElem_cons_succ, List.setIfInBounds_toArray, List.set_cons_zero, List.set_cons_succ])
      have HZ := Lib.hid hz2
      clear hz2
      refine wpAnyH_take1 (i := 8) (oi := _) (v := ?_) (by kernel_rfl) rfl (by kernel_rfl) (fun _ _ _ h => h) (Or.inl ⟨by rfl, ?_⟩) (by assumption) ?_
      rotate_left 1
      · intro w hSw; (try dsimp only at hSw); go_simp; (with_reducible rfl)
      (try simp only [Act.put, List.getElem_toArray, List.getElem_cons_zero, List.getElem_cons_succ, List.setIfInBounds_toArray, List.set_cons_zero, List.set_cons_succ])
      refine wpAnyH_done (by kernel_rfl) ?_ _
      refine NoPanic.normal ?_
      go_wp2_with fail
      go_roundw
      case rel =>
        refine ⟨k + 1, hlt, by go_num, ?_, Lib.hid (below_step HY2 hbr.out)⟩
        rw [hst.out]
        exact Lib.hid (HZ.out.mono (fun b h _ => h.elim (fun h => h.1) fun h => by have := HB.out.size; have := hbr.out.size; have := zy1; omega) fun _ _ _ => rfl)
      case measure => simp [intOf]; omega
    · obtain rfl : k = l.length := by omega
      have hkl : ¬ (l.length : Int) < (l.length : Int) := by omega
      have HO := Lib.hid (show Seq intE _ wr _ (placesT g.atoms l) by have := hO.out; rwa [List.take_length] at this)
      clear hO
      go_wp2_with fail
      go_ret
      exact ⟨_, rfl, hbw.out, HO.out⟩

/-! ### Sets of numbers -/
theorem setN_no {n : Nat} {l : List Int} {k : Nat} (hk : k < l.length) (h : inN n l[k] = false) : setN n l = false := by
  cases e : setN n l with
  | false => rfl
  | true =>
    have := (setN_iff.1 e).1 _ (List.getElem_mem hk)
    unfold inN at h
    simp at h; omega
theorem setN_drop {n : Nat} {l : List Int} {k : Nat} (hk : k + 1 < l.length) (h : ¬ l[k] < l[k + 1]) : setN n l = false := by
  unfold setN
  rw [riseB_no hk (fun h1 => h (cmpZ_lt.1 h1)), Bool.and_false]
theorem setN_yes {n : Nat} {l : List Int} (h : ∀ k (hk : k < l.length), inN n l[k] = true) (h2 : ∀ k (hk : k + 1 < l.length), l[k] < l[k + 1]) : setN n l = true := by
  unfold setN
  rw [riseB_yes (fun k hk => cmpZ_lt.2 (h2 k hk)), Bool.and_true, List.all_eq_true]
  intro x hx
  obtain ⟨k, hk, rfl⟩ := List.mem_iff_getElem.1 hx
  exact h k hk
set_option maxHeartbeats 3200000 in
set_option maxRecDepth 100000 in
theorem setR_spec {S : Nat → Prop} {w : World} {v : Value} {l : List Int} {n : Nat} (hl : Seq intE S w v l) : Calls Tryz.prog 59 #[v, .int .i64 n] w (RetV (.bool (setN n l)) w) := by
  obtain ⟨ao, cap, rfl, h1, h2, h3, h4, h5⟩ := hl
  go_enter Tryz.func59, Tryz.ntmps59
  go_wp2_with fail
  go_loopw [5] (fun i wr => ∃ k : Nat, k ≤ l.length ∧ i = .int .i64 k ∧ Hid (∀ j (hj : j < l.length), j < k → inN n l[j] = true) ∧ Hid (∀ j (hj : j + 1 < l.length), j + 1 < k → l[j] < l[j + 1]) ∧ Drew w wr) (fun i _ => l.length - (intOf i).toNat)
  case atStart => exact ⟨0, Nat.zero_le _, rfl, Lib.hid (fun j _ h => absurd h (Nat.not_lt_zero _)), Lib.hid (fun j _ h => absurd h (Nat.not_lt_zero _)), Drew.refl _⟩
  case round =>
    obtain ⟨k, hk, rfl, hn1, hn2, hdr⟩ := hrel
    obtain ⟨m, rfl⟩ := hdr
    by_cases hlt : k < l.length
    · obtain ⟨b, off, rfl, hS, hb, hc, -⟩ := h5.int hlt
      have hno := Lib.hid (setN_no (n := n) hlt)
      have hkl : (k : Int) < (l.length : Int) := by omega
      have hk0 : (0 : Int) ≤ (k : Int) := by omega
      by_cases hx1 : l[k] < 0
      · have hd1 : decide (l[k] < 0) = true := by simp; omega
        have hres := Lib.hid (hno.out (by unfold inN; simp; omega))
        clear hx1 hn1 hn2 h5 hno
        go_wp2_with fail
        go_quiet (fail)
        go_wp2_with fail
        go_ret
        exact ⟨ret_bool hres.out.symm, by (repeat (first | exact below_drewN (Below.refl _ _) _ | exact Below.refl _ _ | refine below_drewN ?_ _))⟩
      · have hd1 : decide (l[k] < 0) = false := by simp; omega
        by_cases hx2 : (n : Int) ≤ l[k]
        · have hd2 : decide ((n : Int) ≤ l[k]) = true := by simp; omega
          have hres := Lib.hid (hno.out (by unfold inN; simp; omega))
          clear hx1 hx2 hn1 hn2 h5 hno
          go_wp2_with fail
          go_quiet (fail)
          go_wp2_with fail
          go_ret
          exact ⟨ret_bool hres.out.symm, by (repeat (first | exact below_drewN (Below.refl _ _) _ | exact Below.refl _ _ | refine below_drewN ?_ _))⟩
        · have hd2 : decide ((n : Int) ≤ l[k]) = false := by simp; omega
          have hm1 := Lib.hid (show ∀ j (hj : j < l.length), j < k + 1 → inN n l[j] = true from fun j hj hjk => by
            by_cases e : j = k
            · subst e; unfold inN; simp; omega
            · exact hn1.out j hj (by omega))
          clear hx1 hx2 hn1 hno
          cases k with
          | zero =>
            have hl0 : (0 : Int) < (l.length : Int) := by omega
            have hc' : w.cell? ⟨b, off, none⟩ = some (.int .i64 l[0]) := by simpa using hc
            clear h5 hc hn2
            go_wp2_with fail
            go_quiet (fail)
            go_wp2_with fail
            go_roundw
            case rel => exact ⟨1, hlt, by go_num, hm1, Lib.hid (fun j _ h => absurd h (by omega)), (by repeat (first | exact Drew.of _ _ | refine Drew.drewN ?_ _))⟩
            case measure => simp [intOf]; omega
          | succ k' =>
            obtain ⟨b2, off2, e2, -, -, hc2, -⟩ := h5.int (k := k') (by omega)
            simp only [Option.some.injEq, Addr.mk.injEq, and_true] at e2
            obtain ⟨rfl, rfl⟩ := e2
            have hkp : decide ((0 : Int) < ((k' + 1 : Nat) : Int)) = true := by simp
            have hki1 : (k' : Int) < (l.length : Int) := by omega
            have hk00 : (0 : Int) ≤ (k' : Int) := by omega
            by_cases hx3 : l[k' + 1] ≤ l[k']
            · have hd3 : decide (l[k' + 1] ≤ l[k']) = true := by simp; omega
              have hres := Lib.hid (setN_drop (n := n) hlt (by omega))
              clear h5 hx3 hn2
              go_wp2_with fail
              go_quiet (fail)
              go_wp2_with fail
              go_ret
              exact ⟨ret_bool hres.out.symm, by (repeat (first | exact below_drewN (Below.refl _ _) _ | exact Below.refl _ _ | refine below_drewN ?_ _))⟩
            · have hd3 : decide (l[k' + 1] ≤ l[k']) = false := by simp; omega
              have hm2 := Lib.hid (show ∀ j (hj : j + 1 < l.length), j + 1 < k' + 2 → l[j] < l[j + 1] from fun j hj hjk => by
                by_cases e : j = k'
                · subst e; omega
                · exact hn2.out j hj (by omega))
              clear h5 hx3 hn2
              go_wp2_with fail
              go_quiet (fail)
              go_wp2_with fail
              go_roundw
              case rel => exact ⟨k' + 2, hlt, by go_num, hm1, hm2, (by repeat (first | exact Drew.of _ _ | refine Drew.drewN ?_ _))⟩
              case measure => simp [intOf]; omega
    · obtain rfl : k = l.length := by omega
      have hres := Lib.hid (setN_yes (n := n) (fun j hj => hn1.out j hj hj) fun j hj => hn2.out j hj hj)
      clear h5 hn1 hn2
      go_wp2_with fail
      go_ret
      exact ⟨ret_bool hres.out.symm, below_drewN (Below.refl _ _) m⟩

/-! ### An atom's rules -/
set_option maxHeartbeats 1600000 in
theorem OfR_spec {S : Nat → Prop} {w : World} {v : Value} {g : Prog} {a : Int} (hg : ProgV S w v g) (hl : g.rules.length ≤ 1000000000) :
    Calls Tryz.prog 23 #[v, .int .i64 a] w (Ret (fun r w' => Seq intE (fun b => w.heap.size ≤ b) w' r (ofR g a)) w) := by
  obtain ⟨va, vr, rfl, hga, ⟨ra, rc, rfl, hrc, hrm, hrl, hrn, hr⟩⟩ := hg
  obtain ⟨rs, hrs⟩ : ∃ rs, rs = g.rules := ⟨_, rfl⟩
  have hof : ofR g a = ofR ⟨[], rs⟩ a := by rw [hrs]; rfl
  rw [← hrs] at hl hrl hr hrc ⊢
  rw [hof]
  clear hrs hga hof
  go_enter Tryz.func23, Tryz.ntmps23
  go_wp2
  go_loopw [5, 6] (fun o i wr => ∃ k : Nat, k ≤ rs.length ∧ i = .int .i64 k ∧ Own intE S (w.heap.size+1) 3 wr o (ofR ⟨[], rs.take k⟩ a) ∧ Below (w.heap.size+1) (w.alloc (Obj.cells #[va, Value.slice ra rs.length rc] 26)) wr) (fun _ i _ => rs.length - (intOf i).toNat)
  case atStart =>
    refine ⟨0, Nat.zero_le _, rfl, Own.lit0 (by simp) (Nat.le_refl _) rfl, Seq.way⟩
  case round =>
    obtain ⟨k, hk, rfl, hown, hbel⟩ := hrel
    have hb0 : Below w.heap.size w wr := ((Below.refl _ w).alloc (Nat.le_refl _) _).trans (hbel.mono (by omega))
    have hsz : w.heap.size + 1 ≤ wr.heap.size := by simpa using hbel.size
    have hlen := ofR_len ⟨[], rs.take k⟩ a
    simp at hlen
    by_cases hlt : k < rs.length
    · obtain ⟨b, off, pa, pc, na, nc, rfl, hS, hb, h0, -⟩ := (hr.below hb0 fun _ _ h => h).rule hlt
      have cb : wr.cell? ⟨w.heap.size, 1, none⟩ = some (.slice (some ⟨b, off, none⟩) rs.length rc) := by rw [hbel.cell (by simp)]; simp
      have hsn := Lib.hid (ofR_snoc rs [] a k hlt)
      by_cases he : rs[k].head = a
      · go_wp2_with (at_builtin; refine wpList_app_int rfl _ _ 36 rfl Tryz.underlying36 infoInt rfl hown rfl (y := (k:Int)) Seq.way ?_ ?_ ?_ ?_ ?_)
        · exact ⟨by omega, by omega⟩
        · go_simp
        · omega
        · exact hsz
        · intro ao cap w' hown' hkept
          clear hown
          go_wp2
          go_roundw
          case rel =>
            refine ⟨k+1, hlt, by go_num, ?_, hbel.trans (Below.trans Seq.way hkept.below)⟩
            rw [hsn.out, if_pos he]
            simpa using hown'
          case measure => simp [intOf]; omega
      · go_wp2
        go_roundw
        case rel =>
          refine ⟨k+1, hlt, by go_num, ?_, hbel⟩
          rw [hsn.out, if_neg he, List.append_nil]
          exact hown
        case measure => simp [intOf]; omega
    · obtain rfl : k = rs.length := by omega
      rw [List.take_length] at hown
      have cb : wr.cell? ⟨w.heap.size, 1, none⟩ = some (.slice ra rs.length rc) := by rw [hbel.cell (by simp)]; simp
      obtain ⟨oa, oc, rfl, -⟩ := hown.shape
      clear hr
      go_wp2
      go_ret
      exact ⟨_, rfl, hb0, (own_intS (T := fun _ => False) hown).seq (by rw [List.take_length] at hlen; omega) fun b _ h => h.elim False.elim fun h => by omega⟩
end Go.Proofs.YtaedgpcmkagpeaaGreat
