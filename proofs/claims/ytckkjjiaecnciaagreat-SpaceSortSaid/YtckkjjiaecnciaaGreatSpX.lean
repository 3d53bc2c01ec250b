/-
  Layer 14, the law: SpaceSort.
-/
import Derived.Test.YtckkjjiaecnciaaGreatSpQ
import Derived.Test.YtckkjjiaecnciaaGreatSpY
namespace Go.Proofs.YtckkjjiaecnciaaGreat
open Go Go.RowKit

theorem sort14n {S : Nat → Prop} {w : World} {v : Value} {s r : List Tab} {p : List Int} {m : Nat} (h : sortTs s = r) (h2 : placesS s = p) (h3 : r.length = m) (h4 : p.length = m) (hs : Seq tabE S w v s) (hg : GoodS s) :
    Calls Tryz.prog 16 #[v] w (fun e w' => ∃ ao ac po pc, e = .returned (.tuple #[.slice ao m ac, .slice po m pc]) ∧ Below w.heap.size w w' ∧ Seq tabE (fun _ => True) w' (.slice ao m ac) r ∧ Seq intE (fun _ => True) w' (.slice po m pc) p) := by
  subst h3
  have := sort14 h h2 hs hg
  rw [h4] at this
  exact this
theorem cmpN14 {S T : Nat → Prop} {w : World} {v u : Value} {a b : List Cell} {z : Int} (h : cmpT a b = z) (ra : RightT a) (rb : RightT b) (ha : Seq cellE S w v a) (hb : Seq cellE T w u b) : Calls Tryz.prog 29 #[v, u] w (RetV (.int .i64 z) w) := h ▸ compare_right ra rb ha hb
theorem intK {S : Nat → Prop} {w : World} {a : Option Addr} {n c : Nat} {l : List Int} {k : Nat} {z : Int} (h : Seq intE S w (.slice a n c) l) (hz : l[k]? = some z) : ∃ b o, a = some ⟨b, o, none⟩ ∧ b < w.heap.size ∧ w.cell? ⟨b, o + k, none⟩ = some (.int .i64 z) := by
  obtain ⟨_, _, ee, -, -, -, -, x5⟩ := h
  simp only [Value.slice.injEq] at ee
  obtain ⟨rfl, rfl, rfl⟩ := ee
  obtain ⟨hk, rfl⟩ := List.getElem?_eq_some_iff.1 hz
  obtain ⟨b1, o1, e1, -, l1, d0, -⟩ := x5.int hk
  exact ⟨b1, o1, e1, l1, d0⟩
theorem termK {S : Nat → Prop} {w : World} {a : Option Addr} {n c : Nat} {l : List (List Cell)} {k : Nat} {t : List Cell} (h : Seq (seqE cellE) S w (.slice a n c) l) (hz : l[k]? = some t) : ∃ b o ta tc, a = some ⟨b, o, none⟩ ∧ b < w.heap.size ∧ w.cell? ⟨b, o + k, none⟩ = some (.slice ta t.length tc) ∧ Seq cellE S w (.slice ta t.length tc) t := by
  obtain ⟨_, _, ee, -, -, -, -, x5⟩ := h
  simp only [Value.slice.injEq] at ee
  obtain ⟨rfl, rfl, rfl⟩ := ee
  obtain ⟨hk, rfl⟩ := List.getElem?_eq_some_iff.1 hz
  obtain ⟨b1, o1, ta, tc, e1, -, l1, d0, hX⟩ := x5.seq hk
  exact ⟨b1, o1, ta, tc, e1, l1, d0, hX⟩
theorem has_mem {t : List Cell} {l : List (List Cell)} (h : t ∈ l) : hasT l t = true := by unfold hasT; exact decide_eq_true h

set_option maxHeartbeats 25600000 in
set_option maxRecDepth 100000 in
theorem sort_spec {S : Nat → Prop} {w : World} {v : Value} {s : List Tab} (hs : Seq tabE S w v s) :
    Calls Tryz.prog 6 #[v] w (RetV (.bool true) w) := by
  have S_0 := Lib.hid hs
  obtain ⟨aa, ac, rfl⟩ := hs.shape
  clear hs
  go_enter Tryz.func6, Tryz.ntmps6
  go_wp2_with fail
  refine (head_spec).mono ?_
  rintro e y1 ⟨rfl, hy1⟩
  have D1 := Lib.hid (below_step hy1 (Seq.way : Below w.heap.size w _))
  have S_1 := Lib.hid (S_0.out.at D1.out)
  have B1 := Lib.hid D1.out
  clear S_0
  clear hy1 D1
  cases hf : fewB s with
  | false =>
    go_wp2_with fail
    refine (few14 hf (S_1.out.at Seq.way)).mono ?_
    rintro e y2 ⟨rfl, hy2⟩
    have D2 := Lib.hid (below_step hy2 (Seq.way : Below y1.heap.size y1 _))
    have S_2 := Lib.hid (S_1.out.at D2.out)
    have B2 := Lib.hid (below_step D2.out B1.out)
    clear S_1
    clear hy2 D2 B1
    go_wp2_with fail
    go_ret
    exact ⟨rfl, B2.out⟩
  | true =>
    go_wp2_with fail
    refine (few14 hf (S_1.out.at Seq.way)).mono ?_
    rintro e y2 ⟨rfl, hy2⟩
    have D2 := Lib.hid (below_step hy2 (Seq.way : Below y1.heap.size y1 _))
    have S_2 := Lib.hid (S_1.out.at D2.out)
    have B2 := Lib.hid (below_step D2.out B1.out)
    clear S_1
    clear hy2 D2 B1
    cases hr : rightTs s with
    | false =>
      go_wp2_with fail
      refine (rightR14 hr (S_2.out.at Seq.way) hf).mono ?_
      rintro e y3 ⟨rfl, hy3⟩
      have D3 := Lib.hid (below_step hy3 (Seq.way : Below y2.heap.size y2 _))
      have S_3 := Lib.hid (S_2.out.at D3.out)
      have B3 := Lib.hid (below_step D3.out B2.out)
      clear S_2
      clear hy3 D3 B2
      go_wp2_with fail
      go_ret
      exact ⟨rfl, B3.out⟩
    | true =>
      go_wp2_with fail
      refine (rightR14 hr (S_2.out.at Seq.way) hf).mono ?_
      rintro e y3 ⟨rfl, hy3⟩
      have D3 := Lib.hid (below_step hy3 (Seq.way : Below y2.heap.size y2 _))
      have S_3 := Lib.hid (S_2.out.at D3.out)
      have B3 := Lib.hid (below_step D3.out B2.out)
      clear S_2
      clear hy3 D3 B2
      have hG := good_of hf hr
      have hO := sortOK hG
      obtain ⟨T, hT⟩ : ∃ T, T = sortTs s := ⟨_, rfl⟩
      obtain ⟨P, hP⟩ : ∃ P, P = placesS s := ⟨_, rfl⟩
      rw [← hT, ← hP] at hO
      have HT := Lib.hid hT
      have HP := Lib.hid hP
      have HO := Lib.hid hO
      have HGo := Lib.hid hG
      have hfew := hO.few
      have hGa := Lib.hid (good_ans hG)
      have hTa := Lib.hid (good_ans hO.good)
      clear hG hO hT hP hf hr
      go_wp2_with fail
      refine (sort14n HT.out.symm HP.out.symm HO.out.lenT HO.out.lenP (S_3.out.at Seq.way) HGo.out).mono ?_
      rintro e y4 ⟨ta, tc, pa, pc, rfl, hy4, hs4, ht4⟩
      have D4 := Lib.hid (below_step hy4 (Seq.way : Below y3.heap.size y3 _))
      have S_4 := Lib.hid (S_3.out.at D4.out)
      have B4 := Lib.hid (below_step D4.out B3.out)
      clear S_3
      have T_4 := Lib.hid (hs4)
      have P_4 := Lib.hid (ht4)
      clear hy4 D4 B3
      clear hs4 ht4
      obtain ⟨wb, rfl⟩ : ∃ wb, wb = y4 := ⟨_, rfl⟩
      go_wp2_with fail
      go_loopw [6] (fun i wr => ∃ (k : Nat), k ≤ s.length ∧ i = .int .i64 k ∧ Hid (Below wb.heap.size wb wr)) (fun i _ => s.length - (intOf i).toNat)
      case atStart => exact ⟨0, Nat.zero_le _, rfl, Lib.hid (by first | exact Below.refl _ _ | exact Seq.way)⟩
      case round =>
        obtain ⟨k, hk, rfl, hbr⟩ := hrel
        have S_0 := Lib.hid (S_4.out.at hbr.out)
        have T_0 := Lib.hid (T_4.out.at hbr.out)
        have P_0 := Lib.hid (P_4.out.at hbr.out)
        have B0 := Lib.hid hbr.out
        obtain ⟨wo, rfl⟩ : ∃ wo, wo = wr := ⟨_, rfl⟩
        by_cases hlt : k < s.length
        · obtain ⟨x, hx⟩ : ∃ x, s[k]? = some x := ⟨_, List.getElem?_eq_getElem hlt⟩
          obtain ⟨p, hp, hPk, hTp⟩ := HO.out.place hx
          obtain ⟨hln, hxl⟩ := HO.out.len hx
          obtain ⟨y, hy⟩ : ∃ y, T[k]? = some y := ⟨_, List.getElem?_eq_getElem (by rw [HO.out.lenT]; exact hlt)⟩
          have hyr := Lib.hid (HO.out.right hy)
          have hya := Lib.hid (HO.out.ansr hy)
          have hyl := (HO.out.right hy).2.1
          obtain ⟨m, hm⟩ : ∃ m, m = setL cmpT x.ans := ⟨_, rfl⟩
          have Hmem := Lib.hid (fun (t : List Cell) (h : t ∈ m) => has_mem (l := x.ans) (t := t) ((mem_setL cmpT_cmp).1 (by rw [← hm]; exact h)))
          rw [← hm] at hTp hln
          have Hx := Lib.hid hx
          have Hy := Lib.hid hy
          have Hp := Lib.hid hPk
          have Htp := Lib.hid hTp
          have Hln := Lib.hid hln
          have hkI : (k : Int) < (s.length : Int) := by omega
          have hk0 : (0 : Int) ≤ (k : Int) := by omega
          have hpI : (p : Int) < (s.length : Int) := by omega
          have hp0 : (0 : Int) ≤ (p : Int) := by omega
          have hkd1 : decide ((k : Int) < (s.length : Int)) = true := decide_eq_true hkI
          have hkt : ((k : Int)).toNat = k := Int.toNat_natCast k
          have hpt : ((p : Int)).toNat = p := Int.toNat_natCast p
          have hpd1 : decide ((p : Int) < 0) = false := decide_eq_false (by omega)
          have hpd2 : decide ((s.length : Int) ≤ (p : Int)) = false := decide_eq_false (by omega)
          have hpd3 : decide (s.length ≤ p) = false := decide_eq_false (by omega)
          have hpd4 : decide (p < s.length) = true := decide_eq_true hp
          have hkd2 : decide (k < s.length) = true := decide_eq_true hlt
          clear hx hy hPk hTp hm hln
          obtain ⟨pb, po, rfl, plt, p0⟩ := intK P_0.out Hp.out
          obtain ⟨tb, tq, tkh, tkc, tkl, tkd, ta2, tcap, te, rfl, tlt, tk0, tk1, tkH, tkA⟩ := tabK2 T_0.out Hy.out rfl rfl rfl
          rw [HO.out.lenT] at te
          simp only [Value.slice.injEq, true_and] at te
          obtain ⟨rfl, rfl⟩ := te
          have KH := Lib.hid tkH
          have KA := Lib.hid tkA
          clear tkH tkA
          obtain ⟨sb, so, sh, sc, sl, sd, sa2, scap, se, rfl, slt, s0, s1, sH, sA⟩ := tabK2 S_0.out Hx.out rfl rfl rfl
          simp only [Value.slice.injEq, true_and] at se
          obtain ⟨rfl, rfl⟩ := se
          have SH := Lib.hid sH
          have SA := Lib.hid sA
          clear sH sA
          obtain ⟨ub, uo, uh, uc, ul, ud, ua2, ucap, ue, ue2, ult, u0, u1, uH, uA⟩ := tabK2 T_0.out Htp.out rfl rfl Hln.out
          rw [HO.out.lenT] at ue
          simp only [Value.slice.injEq, true_and] at ue
          obtain ⟨rfl, rfl⟩ := ue
          simp only [Option.some.injEq, Addr.mk.injEq, and_true] at ue2
          obtain ⟨rfl, rfl⟩ := ue2
          have UH := Lib.hid uH
          have UA := Lib.hid uA
          clear uH uA ult
          by_cases hk1 : k = 0
          · have hkz : decide ((0 : Int) < (k : Int)) = false := decide_eq_false (by omega)
            have hkz2 : decide (0 < k) = false := decide_eq_false (by omega)
            clear hk1
            go_upto_region 10 with fail
            have Hkeep := fun {Wk : World} (hW : Below wo.heap.size wo Wk) => Lib.hid (show Wk.cell? ⟨pb, po + k, none⟩ = some (.int .i64 (p : Int)) from (hW.cell (p := ⟨pb, po + k, none⟩) plt).trans p0)
            (try simp only [List.append_eq, List.cons_append, List.nil_append])
            refine wp_region_noPanic ?_
            refine wp_region_held_drew (S := fun w' => w'.cell? ⟨pb, po + k, none⟩ = some (.int .i64 (p : Int))) (by kernel_rfl) ?_ (fun hHeld => ?_)
            · exact (Hkeep (Below.drew (Below.refl _ _))).out
            refine wpAnyH_take1 (i := 0) (oi := _) (v := ?_) (by kernel_rfl) rfl (by kernel_rfl) (fun _ _ _ h => h) (Or.inl ⟨by rfl, ?_⟩) (by assumption) ?_
            rotate_left 1
            · intro w hSw; (try dsimp only at hSw); go_simp; (with_reducible rfl)
            (try simp only [Act.put, List.getElem_toArray, List.getElem_cons_zero, List.setIfInBounds_toArray, List.set_cons_zero, List.set_cons_succ])
            refine wpAnyH_take1 (i := 1) (oi := _) (v := ?_) (by kernel_rfl) rfl (by kernel_rfl) (fun _ _ _ h => h) (Or.inl ⟨by rfl, ?_⟩) (by assumption) ?_
            rotate_left 1
            · intro w hSw; (try dsimp only at hSw); go_simp; (with_reducible rfl)
            (try simp only [Act.put, List.getElem_toArray, List.getElem_cons_zero, List.getElem_cons_succ, List.setIfInBounds_toArray, List.set_cons_zero, List.set_cons_succ])
            refine wpAnyH_take1 (i := 2) (oi := _) (v := ?_) (by kernel_rfl) rfl (by kernel_rfl) (fun _ _ _ h => h) (Or.inl ⟨by rfl, ?_⟩) (by assumption) ?_
            rotate_left 1
            · intro w hSw; (try dsimp only at hSw); go_simp; (with_reducible rfl)
            (try simp only [Act.put, List.getElem_toArray, List.getElem_cons_zero, List.getElem_cons_succ, List.setIfInBounds_toArray, List.set_cons_zero, List.set_cons_succ])
            refine wpAnyH_take1 (i := 3) (oi := _) (v := ?_) (by kernel_rfl) rfl (by kernel_rfl) (fun _ _ _ h => h) (Or.inl ⟨by rfl, ?_⟩) (by assumption) ?_
            rotate_left 1
            · intro w hSw; (try dsimp only at hSw); go_simp; (with_reducible rfl)
            (try simp only [Act.put, List.getElem_toArray, List.getElem_cons_zero, List.getElem_cons_succ, List.setIfInBounds_toArray, List.set_cons_zero, List.set_cons_succ])
            refine wpAnyH_take1 (i := 4) (oi := _) (v := ?_) (by kernel_rfl) rfl (by kernel_rfl) (fun _ _ _ h => h) (Or.inl ⟨by rfl, ?_⟩) (by assumption) ?_
            rotate_left 1
            · intro w hSw; (try dsimp only at hSw); go_simp; (with_reducible rfl)
            (try simp only [Act.put, List.getElem_toArray, List.getElem_cons_zero, List.getElem_cons_succ, List.setIfInBounds_toArray, List.set_cons_zero, List.set_cons_succ])
            refine wpAnyH_take1 (i := 5) (oi := _) (v := ?_) (by kernel_rfl) rfl (by kernel_rfl) (fun _ _ _ h => h) (Or.inl ⟨by rfl, ?_⟩) (by assumption) ?_
            rotate_left 1
            · intro w hSw; (try dsimp only at hSw); go_simp; (with_reducible rfl)
            (try simp only [Act.put, List.getElem_toArray, List.getElem_cons_zero, List.getElem_cons_succ, List.setIfInBounds_toArray, List.set_cons_zero, List.set_cons_succ])
            refine wpAnyH_take1 (i := 6) (oi := _) (v := ?_) (by kernel_rfl) rfl (by kernel_rfl) (fun _ _ _ h => h) (Or.inl ⟨by rfl, ?_⟩) (by assumption) ?_
            rotate_left 1
            · intro w hSw; (try dsimp only at hSw); go_simp; (with_reducible rfl)
            (try simp only [Act.put, List.getElem_toArray, List.getElem_cons_zero, List.getElem_cons_succ, List.setIfInBounds_toArray, List.set_cons_zero, List.set_cons_succ])
            refine wpAnyH_take1 (i := 7) (oi := _) (v := ?_) (by kernel_rfl) rfl (by kernel_rfl) (fun _ _ _ h => h) (Or.inl ⟨by rfl, ?_⟩) (by assumption) ?_
            rotate_left 1
            · intro w hSw; (try dsimp only at hSw); go_simp; (with_reducible rfl)
            (try simp only [Act.put, List.getElem_toArray, List.getElem_cons_zero, List.getElem_cons_succ, List.setIfInBounds_toArray, List.set_cons_zero, List.set_cons_succ])
            refine wpAnyH_take1 (i := 8) (oi := _) (v := ?_) (by kernel_rfl) rfl (by kernel_rfl) (fun _ _ _ h => h) (Or.inl ⟨by rfl, ?_⟩) (by assumption) ?_
            rotate_left 1
            · intro w hSw; (try dsimp only at hSw); go_simp; (with_reducible rfl)
            (try simp only [Act.put, List.getElem_toArray, List.getElem_cons_zero, List.getElem_cons_succ, List.setIfInBounds_toArray, List.set_cons_zero, List.set_cons_succ])
            refine wpAnyH_take1 (i := 9) (oi := _) (v := ?_) (by kernel_rfl) rfl (by kernel_rfl) (fun _ _ _ h => h) (Or.inl ⟨by rfl, ?_⟩) (by assumption) ?_
            rotate_left 1
            · intro w hSw; (try dsimp only at hSw); go_simp; (with_reducible rfl)
            (try simp only [Act.put, List.getElem_toArray, List.getElem_cons_zero, List.getElem_cons_succ, List.setIfInBounds_toArray, List.set_cons_zero, List.set_cons_succ])
            refine wpAnyH_take1 (i := 10) (oi := _) (v := ?_) (by kernel_rfl) rfl (by kernel_rfl) (fun _ _ _ h => h) (Or.inl ⟨by rfl, ?_⟩) (by assumption) ?_
            rotate_left 1
            · intro w hSw; (try dsimp only at hSw); go_simp; (with_reducible rfl)
            (try simp only [Act.put, List.getElem_toArray, List.getElem_cons_zero, List.getElem_cons_succ, List.setIfInBounds_toArray, List.set_cons_zero, List.set_cons_succ])
            refine wpAnyH_take1 (i := 11) (oi := _) (v := ?_) (by kernel_rfl) rfl (by kernel_rfl) (fun _ _ _ h => h) (Or.inl ⟨by rfl, ?_⟩) (by assumption) ?_
            rotate_left 1
            · intro w hSw; (try dsimp only at hSw); go_simp; (with_reducible rfl)
            (try simp only [Act.put, List.getElem_toArray, List.getElem_cons_zero, List.getElem_cons_succ, List.setIfInBounds_toArray, List.set_cons_zero, List.set_cons_succ])
            refine wpAnyH_take1 (i := 12) (oi := _) (v := ?_) (by kernel_rfl) rfl (by kernel_rfl) (fun _ _ _ h => h) (Or.inl ⟨by rfl, ?_⟩) (by assumption) ?_
            rotate_left 1
            · intro w hSw; (try dsimp only at hSw); go_simp; (with_reducible rfl)
            (try simp only [Act.put, List.getElem_toArray, List.getElem_cons_zero, List.getElem_cons_succ, List.setIfInBounds_toArray, List.set_cons_zero, List.set_cons_succ])
            refine wpAnyH_take1 (i := 13) (oi := _) (v := ?_) (by kernel_rfl) rfl (by kernel_rfl) (fun _ _ _ h => h) (Or.inl ⟨by rfl, ?_⟩) (by assumption) ?_
            rotate_left 1
            · intro w hSw; (try dsimp only at hSw); go_simp; (with_reducible rfl)
            (try simp only [Act.put, List.getElem_toArray, List.getElem_cons_zero, List.getElem_cons_succ, List.setIfInBounds_toArray, List.set_cons_zero, List.set_cons_succ])
            refine wpAnyH_take1 (i := 14) (oi := _) (v := ?_) (by kernel_rfl) rfl (by kernel_rfl) (fun _ _ _ h => h) (Or.inl ⟨by rfl, ?_⟩) (by assumption) ?_
            rotate_left 1
            · intro w hSw; (try dsimp only at hSw); go_simp; (with_reducible rfl)
            (try simp only [Act.put, List.getElem_toArray, List.getElem_cons_zero, List.getElem_cons_succ, List.setIfInBounds_toArray, List.set_cons_zero, List.set_cons_succ])
            refine wpAnyH_take1 (i := 15) (oi := _) (v := ?_) (by kernel_rfl) rfl (by kernel_rfl) (fun _ _ _ h => h) (Or.inl ⟨by rfl, ?_⟩) (by assumption) ?_
            rotate_left 1
            · intro w hSw; (try dsimp only at hSw); go_simp; (with_reducible rfl)
            (try simp only [Act.put, List.getElem_toArray, List.getElem_cons_zero, List.getElem_cons_succ, List.setIfInBounds_toArray, List.set_cons_zero, List.set_cons_succ])
            refine wpAnyH_take1 (i := 16) (oi := _) (v := ?_) (by kernel_rfl) rfl (by kernel_rfl) (fun _ _ _ h => h) (Or.inl ⟨by rfl, ?_⟩) (by assumption) ?_
            rotate_left 1
            · intro w hSw; (try dsimp only at hSw); go_simp; (with_reducible rfl)
            (try simp only [Act.put, List.getElem_toArray, List.getElem_cons_zero, List.getElem_cons_succ, List.setIfInBounds_toArray, List.set_cons_zero, List.set_cons_succ])
            refine wpAnyH_take1 (i := 17) (oi := _) (v := ?_) (by kernel_rfl) rfl (by kernel_rfl) (fun _ _ _ h => h) (Or.inl ⟨by rfl, ?_⟩) (by assumption) ?_
            rotate_left 1
            · intro w hSw; (try dsimp only at hSw); go_simp; (with_reducible rfl)
            (try simp only [Act.put, List.getElem_toArray, List.getElem_cons_zero, List.getElem_cons_succ, List.setIfInBounds_toArray, List.set_cons_zero, List.set_cons_succ])
            refine wpAnyH_take1 (i := 18) (oi := _) (v := undef) (by kernel_rfl) rfl (by kernel_rfl) (fun _ _ _ h => h) (Or.inr ⟨by rfl, rfl⟩) (by assumption) ?_
            (try simp only [Act.put, List.getElem_toArray, List.getElem_cons_zero, List.getElem_cons_succ, List.setIfInBounds_toArray, List.set_cons_zero, List.set_cons_succ])
            refine wpAnyH_take1 (i := 19) (oi := _) (v := undef) (by kernel_rfl) rfl (by kernel_rfl) (fun _ _ _ h => h) (Or.inr ⟨by rfl, rfl⟩) (by assumption) ?_
            (try simp only [Act.put, List.getElem_toArray, List.getElem_cons_zero, List.getElem_cons_succ, List.setIfInBounds_toArray, List.set_cons_zero, List.set_cons_succ])
            refine wpAnyH_take1 (i := 20) (oi := _) (v := undef) (by kernel_rfl) rfl (by kernel_rfl) (fun _ _ _ h => h) (Or.inr ⟨by rfl, rfl⟩) (by assumption) ?_
            (try simp only [Act.put, List.getElem_toArray, List.getElem_cons_zero, List.getElem_cons_succ, List.setIfInBounds_toArray, List.set_cons_zero, List.set_cons_succ])
            refine wpAnyH_take1 (i := 21) (oi := _) (v := undef) (by kernel_rfl) rfl (by kernel_rfl) (fun _ _ _ h => h) (Or.inr ⟨by rfl, rfl⟩) (by assumption) ?_
            (try simp only [Act.put, List.getElem_toArray, List.getElem_cons_zero, List.getElem_cons_succ, List.setIfInBounds_toArray, List.set_cons_zero, List.set_cons_succ])
            refine wpAnyH_take1 (i := 22) (oi := _) (v := undef) (by kernel_rfl) rfl (by kernel_rfl) (fun _ _ _ h => h) (Or.inr ⟨by rfl, rfl⟩) (by assumption) ?_
            (try simp only [Act.put, List.getElem_toArray, List.getElem_cons_zero, List.getElem_cons_succ, List.setIfInBounds_toArray, List.set_cons_zero, List.set_cons_succ])
            refine wpAnyH_take1 (i := 23) (oi := _) (v := undef) (by kernel_rfl) rfl (by kernel_rfl) (fun _ _ _ h => h) (Or.inr ⟨by rfl, rfl⟩) (by assumption) ?_
            (try simp only [Act.put, List.getElem_toArray, List.getElem_cons_zero, List.getElem_cons_succ, List.setIfInBounds_toArray, List.set_cons_zero, List.set_cons_succ])
            refine wpAnyH_take1 (i := 24) (oi := _) (v := undef) (by kernel_rfl) rfl (by kernel_rfl) (fun _ _ _ h => h) (Or.inr ⟨by rfl, rfl⟩) (by assumption) ?_
            (try simp only [Act.put, List.getElem_toArray, List.getElem_cons_zero, List.getElem_cons_succ, List.setIfInBounds_toArray, List.set_cons_zero, List.set_cons_succ])
            refine wpAnyH_take1 (i := 25) (oi := _) (v := undef) (by kernel_rfl) rfl (by kernel_rfl) (fun _ _ _ h => h) (Or.inr ⟨by rfl, rfl⟩) (by assumption) ?_
            (try simp only [Act.put, List.getElem_toArray, List.getElem_cons_zero, List.getElem_cons_succ, List.setIfInBounds_toArray, List.set_cons_zero, List.set_cons_succ])
            refine wpAnyH_take1 (i := 26) (oi := _) (v := undef) (by kernel_rfl) rfl (by kernel_rfl) (fun _ _ _ h => h) (Or.inr ⟨by rfl, rfl⟩) (by assumption) ?_
            (try simp only [Act.put, List.getElem_toArray, List.getElem_cons_zero, List.getElem_cons_succ, List.setIfInBounds_toArray, List.set_cons_zero, List.set_cons_succ])
            refine wpAnyH_take1 (i := 27) (oi := _) (v := undef) (by kernel_rfl) rfl (by kernel_rfl) (fun _ _ _ h => h) (Or.inr ⟨by rfl, rfl⟩) (by assumption) ?_
            (try simp only [Act.put, List.getElem_toArray, List.getElem_cons_zero, List.getElem_cons_succ, List.setIfInBounds_toArray, List.set_cons_zero, List.set_cons_succ])
            refine wpAnyH_take1 (i := 28) (oi := _) (v := undef) (by kernel_rfl) rfl (by kernel_rfl) (fun _ _ _ h => h) (Or.inr ⟨by rfl, rfl⟩) (by assumption) ?_
            (try simp only [Act.put, List.getElem_toArray, List.getElem_cons_zero, List.getElem_cons_succ, List.setIfInBounds_toArray, List.set_cons_zero, List.set_cons_succ])
            refine wpAnyH_take1 (i := 29) (oi := _) (v := undef) (by kernel_rfl) rfl (by kernel_rfl) (fun _ _ _ h => h) (Or.inr ⟨by rfl, rfl⟩) (by assumption) ?_
            (try simp only [Act.put, List.getElem_toArray, List.getElem_cons_zero, List.getElem_cons_succ, List.setIfInBounds_toArray, List.set_cons_zero, List.set_cons_succ])
            refine wpAnyH_take1 (i := 30) (oi := _) (v := undef) (by kernel_rfl) rfl (by kernel_rfl) (fun _ _ _ h => h) (Or.inr ⟨by rfl, rfl⟩) (by assumption) ?_
            (try simp only [Act.put, List.getElem_toArray, List.getElem_cons_zero, List.getElem_cons_succ, List.setIfInBounds_toArray, List.set_cons_zero, List.set_cons_succ])
            refine wpAnyH_take1 (i := 31) (oi := _) (v := ?_) (by kernel_rfl) rfl (by kernel_rfl) (fun _ _ _ h => h) (Or.inl ⟨by rfl, ?_⟩) (by assumption) ?_
            rotate_left 1
            · intro w hSw; (try dsimp only at hSw); go_simp; (with_reducible rfl)
            (try simp only [Act.put, List.getElem_toArray, List.getElem_cons_zero, List.getElem_cons_succ, List.setIfInBounds_toArray, List.set_cons_zero, List.set_cons_succ])
            refine wpAnyH_take1 (i := 32) (oi := _) (v := ?_) (by kernel_rfl) rfl (by kernel_rfl) (fun _ _ _ h => h) (Or.inl ⟨by rfl, ?_⟩) (by assumption) ?_
            rotate_left 1
            · intro w hSw; (try dsimp only at hSw); go_simp; (with_reducible rfl)
            (try simp only [Act.put, List.getElem_toArray, List.getElem_cons_zero, List.getElem_cons_succ, List.setIfInBounds_toArray, List.set_cons_zero, List.set_cons_succ])
            refine wpAnyH_done (by kernel_rfl) ?_ _
            refine NoPanic.normal ?_
            clear Hkeep hkz hkz2
            obtain ⟨W2, hW2⟩ : ∃ W2, W2 = wo.drew := ⟨_, rfl⟩
            have Z2 := Lib.hid (show Below wo.heap.size wo W2 by rw [hW2]; exact Seq.way)
            rw [← hW2]
            clear hW2
            have p0 := (Z2.out.cell (p := ⟨pb, po + k, none⟩) plt).trans p0
            have u0 := (Z2.out.cell (p := ⟨tb, tq + p * 2, none⟩) tlt).trans u0
            have u1 := (Z2.out.cell (p := ⟨tb, tq + p * 2 + 1, none⟩) tlt).trans u1
            have k1 := (Z2.out.cell (p := ⟨tb, tq + k * 2 + 1, none⟩) tlt).trans tk1
            have s0 := (Z2.out.cell (p := ⟨sb, so + k * 2, none⟩) slt).trans s0
            have s1 := (Z2.out.cell (p := ⟨sb, so + k * 2 + 1, none⟩) slt).trans s1
            have plt := Nat.lt_of_lt_of_le plt Z2.out.size
            have tlt := Nat.lt_of_lt_of_le tlt Z2.out.size
            have slt := Nat.lt_of_lt_of_le slt Z2.out.size
            have KA := Lib.hid (KA.out.at Z2.out)
            have SH := Lib.hid (SH.out.at Z2.out)
            have SA := Lib.hid (SA.out.at Z2.out)
            have UH := Lib.hid (UH.out.at Z2.out)
            have UA := Lib.hid (UA.out.at Z2.out)
            clear KH tk0 tk1
            go_upto_region 12 with fail
            have Hkeep := fun {Wk : World} (hW : Below W2.heap.size W2 Wk) => Lib.hid (show Wk.cell? ⟨pb, po + k, none⟩ = some (.int .i64 (p : Int)) ∧ Wk.cell? ⟨tb, tq + p * 2, none⟩ = some (.slice uh x.call.length uc) ∧ Wk.cell? ⟨tb, tq + p * 2 + 1, none⟩ = some (.slice ul x.ans.length ud) ∧ Wk.cell? ⟨tb, tq + k * 2 + 1, none⟩ = some (.slice tkl y.ans.length tkd) from ⟨(hW.cell (p := ⟨pb, po + k, none⟩) plt).trans p0, (hW.cell (p := ⟨tb, tq + p * 2, none⟩) tlt).trans u0, (hW.cell (p := ⟨tb, tq + p * 2 + 1, none⟩) tlt).trans u1, (hW.cell (p := ⟨tb, tq + k * 2 + 1, none⟩) tlt).trans k1⟩)
            (try simp only [List.append_eq, List.cons_append, List.nil_append])
            refine wp_region_noPanic ?_
            refine wp_region_held_drew (S := fun w' => w'.cell? ⟨pb, po + k, none⟩ = some (.int .i64 (p : Int)) ∧ w'.cell? ⟨tb, tq + p * 2, none⟩ = some (.slice uh x.call.length uc) ∧ w'.cell? ⟨tb, tq + p * 2 + 1, none⟩ = some (.slice ul x.ans.length ud) ∧ w'.cell? ⟨tb, tq + k * 2 + 1, none⟩ = some (.slice tkl y.ans.length tkd)) (by kernel_rfl) ?_ (fun hHeld => ?_)
            · exact (Hkeep (Below.drew (Below.refl _ _))).out
            refine wpAnyH_take1 (i := 0) (oi := _) (v := ?_) (by kernel_rfl) rfl (by kernel_rfl) (fun _ _ _ h => h) (Or.inl ⟨by rfl, ?_⟩) (by assumption) ?_
            rotate_left 1
            · intro w hSw; (try dsimp only at hSw); go_simp; (with_reducible rfl)
            (try simp only [Act.put, List.getElem_toArray, List.getElem_cons_zero, List.setIfInBounds_toArray, List.set_cons_zero, List.set_cons_succ])
            refine wpAnyH_take1 (i := 1) (oi := _) (v := ?_) (by kernel_rfl) rfl (by kernel_rfl) (fun _ _ _ h => h) (Or.inl ⟨by rfl, ?_⟩) (by assumption) ?_
            rotate_left 1
            · intro w hSw; (try dsimp only at hSw); go_simp; (with_reducible rfl)
            (try simp only [Act.put, List.getElem_toArray, List.getElem_cons_zero, List.getElem_cons_succ, List.setIfInBounds_toArray, List.set_cons_zero, List.set_cons_succ])
            refine wpAnyH_take1 (i := 2) (oi := _) (v := ?_) (by kernel_rfl) rfl (by kernel_rfl) (fun _ _ _ h => h) (Or.inl ⟨by rfl, ?_⟩) (by assumption) ?_
            rotate_left 1
            · intro w hSw; (try dsimp only at hSw); go_simp; (with_reducible rfl)
            (try simp only [Act.put, List.getElem_toArray, List.getElem_cons_zero, List.getElem_cons_succ, List.setIfInBounds_toArray, List.set_cons_zero, List.set_cons_succ])
            refine wpAnyH_take1 (i := 3) (oi := _) (v := ?_) (by kernel_rfl) rfl (by kernel_rfl) (fun _ _ _ h => h) (Or.inl ⟨by rfl, ?_⟩) (by assumption) ?_
            rotate_left 1
            · intro w hSw; (try dsimp only at hSw); go_simp; (with_reducible rfl)
            (try simp only [Act.put, List.getElem_toArray, List.getElem_cons_zero, List.getElem_cons_succ, List.setIfInBounds_toArray, List.set_cons_zero, List.set_cons_succ])
            refine wpAnyH_take1 (i := 4) (oi := _) (v := ?_) (by kernel_rfl) rfl (by kernel_rfl) (fun _ _ _ h => h) (Or.inl ⟨by rfl, ?_⟩) (by assumption) ?_
            rotate_left 1
            · intro w hSw; (try dsimp only at hSw); go_simp; (with_reducible rfl)
            (try simp only [Act.put, List.getElem_toArray, List.getElem_cons_zero, List.getElem_cons_succ, List.setIfInBounds_toArray, List.set_cons_zero, List.set_cons_succ])
            refine wpAnyH_take1 (i := 5) (oi := _) (v := ?_) (by kernel_rfl) rfl (by kernel_rfl) (fun _ _ _ h => h) (Or.inl ⟨by rfl, ?_⟩) (by assumption) ?_
            rotate_left 1
            · intro w hSw; (try dsimp only at hSw); go_simp; (with_reducible rfl)
            (try simp only [Act.put, List.getElem_toArray, List.getElem_cons_zero, List.getElem_cons_succ, List.setIfInBounds_toArray, List.set_cons_zero, List.set_cons_succ])
            refine wpAnyH_take1 (i := 6) (oi := _) (v := ?_) (by kernel_rfl) rfl (by kernel_rfl) (fun _ _ _ h => h) (Or.inl ⟨by rfl, ?_⟩) (by assumption) ?_
            rotate_left 1
            · intro w hSw; (try dsimp only at hSw); go_simp; (with_reducible rfl)
            (try simp only [Act.put, List.getElem_toArray, List.getElem_cons_zero, List.getElem_cons_succ, List.setIfInBounds_toArray, List.set_cons_zero, List.set_cons_succ])
            refine wpAnyH_take1 (i := 7) (oi := _) (v := ?_) (by kernel_rfl) rfl (by kernel_rfl) (fun _ _ _ h => h) (Or.inl ⟨by rfl, ?_⟩) (by assumption) ?_
            rotate_left 1
            · intro w hSw; (try dsimp only at hSw); go_simp; (with_reducible rfl)
            (try simp only [Act.put, List.getElem_toArray, List.getElem_cons_zero, List.getElem_cons_succ, List.setIfInBounds_toArray, List.set_cons_zero, List.set_cons_succ])
            refine wpAnyH_take1 (i := 8) (oi := _) (v := ?_) (by kernel_rfl) rfl (by kernel_rfl) (fun _ _ _ h => h) (Or.inl ⟨by rfl, ?_⟩) (by assumption) ?_
            rotate_left 1
            · intro w hSw; (try dsimp only at hSw); go_simp; (with_reducible rfl)
            (try simp only [Act.put, List.getElem_toArray, List.getElem_cons_zero, List.getElem_cons_succ, List.setIfInBounds_toArray, List.set_cons_zero, List.set_cons_succ])
            refine wpAnyH_take1 (i := 9) (oi := _) (v := ?_) (by kernel_rfl) rfl (by kernel_rfl) (fun _ _ _ h => h) (Or.inl ⟨by rfl, ?_⟩) (by assumption) ?_
            rotate_left 1
            · intro w hSw; (try dsimp only at hSw); go_simp; (with_reducible rfl)
            (try simp only [Act.put, List.getElem_toArray, List.getElem_cons_zero, List.getElem_cons_succ, List.setIfInBounds_toArray, List.set_cons_zero, List.set_cons_succ])
            refine wpAnyH_take1 (i := 10) (oi := _) (v := ?_) (by kernel_rfl) rfl (by kernel_rfl) (fun _ _ _ h => h) (Or.inl ⟨by rfl, ?_⟩) (by assumption) ?_
            rotate_left 1
            · intro w hSw; (try dsimp only at hSw); go_simp; (with_reducible rfl)
            (try simp only [Act.put, List.getElem_toArray, List.getElem_cons_zero, List.getElem_cons_succ, List.setIfInBounds_toArray, List.set_cons_zero, List.set_cons_succ])
            refine wpAnyH_take1 (i := 11) (oi := _) (v := ?_) (by kernel_rfl) rfl (by kernel_rfl) (fun _ _ _ h => h) (Or.inl ⟨by rfl, ?_⟩) (by assumption) ?_
            rotate_left 1
            · intro w hSw; (try dsimp only at hSw); go_simp; (with_reducible rfl)
            (try simp only [Act.put, List.getElem_toArray, List.getElem_cons_zero, List.getElem_cons_succ, List.setIfInBounds_toArray, List.set_cons_zero, List.set_cons_succ])
            refine wpAnyH_one (i := 12) (by kernel_rfl) rfl (by rfl) fun K hK => ?_
            go_simp
            (try dsimp only)
            clear hHeld
            refine hK.out _ _ (Hkeep Seq.way).out fun hHeld => ?_
            clear hK K
            (try simp only [Act.put, List.getElem_toArray, List.getElem_cons_zero, List.getElem_cons_succ, List.setIfInBounds_toArray, List.set_cons_zero, List.set_cons_succ])
            refine wpAnyH_one (i := 13) (by kernel_rfl) rfl (by rfl) fun K hK => ?_
            go_simp
            (try dsimp only)
            clear hHeld
            refine hK.out _ _ (Hkeep Seq.way).out fun hHeld => ?_
            clear hK K
            (try simp only [Act.put, List.getElem_toArray, List.getElem_cons_zero, List.getElem_cons_succ, List.setIfInBounds_toArray, List.set_cons_zero, List.set_cons_succ])
            refine wpAnyH_take1 (i := 14) (oi := _) (v := ?_) (by kernel_rfl) rfl (by kernel_rfl) (fun _ _ _ h => h) (Or.inl ⟨by rfl, ?_⟩) (by assumption) ?_
            rotate_left 1
            · intro w hSw; (try dsimp only at hSw); go_simp; (with_reducible rfl)
            (try simp only [Act.put, List.getElem_toArray, List.getElem_cons_zero, List.getElem_cons_succ, List.setIfInBounds_toArray, List.set_cons_zero, List.set_cons_succ])
            refine wpAnyH_done (by kernel_rfl) ?_ _
            refine NoPanic.normal ?_
            clear Hkeep
            obtain ⟨W3, hW3⟩ : ∃ z, z = (W2.alloc (.cells #[.slice uh x.call.length uc, .slice ul x.ans.length ud] 43)).drew := ⟨_, rfl⟩
            rw [← hW3]
            have Z3 := Lib.hid (show Below wo.heap.size wo W3 by rw [hW3]; exact below_step (Seq.way : Below W2.heap.size W2 _) Z2.out)
            have Z23 := Lib.hid (show Below W2.heap.size W2 W3 by rw [hW3]; exact Seq.way)
            have XR := Lib.hid (show Row 43 W3 W2.heap.size [.slice uh x.call.length uc, .slice ul x.ans.length ud] by rw [hW3]; exact rowK (Row.new W2 [_, _] _ rfl) (Below.drew (Below.refl _ _)))
            obtain ⟨bq, hbq⟩ : ∃ b, b = W2.heap.size := ⟨_, rfl⟩
            rw [← hbq] at XR
            rw [← hbq]
            have x0 := XR.out.cell (j := 0) (by simp)
            have x1 := XR.out.cell (j := 1) (by simp)
            have xl := XR.out.lt
            simp only [List.getElem_cons_zero, List.getElem_cons_succ] at x0 x1
            have s0 := (Z23.out.cell (p := ⟨sb, so + k * 2, none⟩) slt).trans s0
            have s1 := (Z23.out.cell (p := ⟨sb, so + k * 2 + 1, none⟩) slt).trans s1
            have slt := Nat.lt_of_lt_of_le slt Z23.out.size
            have KA := Lib.hid (KA.out.at Z23.out)
            have SH := Lib.hid (SH.out.at Z23.out)
            have SA := Lib.hid (SA.out.at Z23.out)
            have UH := Lib.hid (UH.out.at Z23.out)
            have UA := Lib.hid (UA.out.at Z23.out)
            clear hW3 hbq p0 u0 u1 k1 Z23 Z2 tlt plt
            go_upto_region 13 with fail
            have Hkeep := fun {Wk : World} (hW : Below W3.heap.size W3 Wk) => Lib.hid (show Wk.cell? ⟨bq, 0, none⟩ = some (.slice uh x.call.length uc) ∧ Wk.cell? ⟨bq, 1, none⟩ = some (.slice ul x.ans.length ud) ∧ Wk.cell? ⟨sb, so + k * 2, none⟩ = some (.slice sh x.call.length sc) ∧ Wk.cell? ⟨sb, so + k * 2 + 1, none⟩ = some (.slice sl x.ans.length sd) from ⟨(hW.cell (p := ⟨bq, 0, none⟩) xl).trans x0, (hW.cell (p := ⟨bq, 1, none⟩) xl).trans x1, (hW.cell (p := ⟨sb, so + k * 2, none⟩) slt).trans s0, (hW.cell (p := ⟨sb, so + k * 2 + 1, none⟩) slt).trans s1⟩)
            (try simp only [List.append_eq, List.cons_append, List.nil_append])
            refine wp_region_noPanic ?_
            refine wp_region_held_drew (S := fun w' => w'.cell? ⟨bq, 0, none⟩ = some (.slice uh x.call.length uc) ∧ w'.cell? ⟨bq, 1, none⟩ = some (.slice ul x.ans.length ud) ∧ w'.cell? ⟨sb, so + k * 2, none⟩ = some (.slice sh x.call.length sc) ∧ w'.cell? ⟨sb, so + k * 2 + 1, none⟩ = some (.slice sl x.ans.length sd)) (by kernel_rfl) ?_ (fun hHeld => ?_)
            · exact (Hkeep (Below.drew (Below.refl _ _))).out
            refine wpAnyH_take1 (i := 0) (oi := _) (v := ?_) (by kernel_rfl) rfl (by kernel_rfl) (fun _ _ _ h => h) (Or.inl ⟨by rfl, ?_⟩) (by assumption) ?_
            rotate_left 1
            · intro w hSw; (try dsimp only at hSw); go_simp; (with_reducible rfl)
            (try simp only [Act.put, List.getElem_toArray, List.getElem_cons_zero, List.setIfInBounds_toArray, List.set_cons_zero, List.set_cons_succ])
            refine wpAnyH_take1 (i := 1) (oi := _) (v := ?_) (by kernel_rfl) rfl (by kernel_rfl) (fun _ _ _ h => h) (Or.inl ⟨by rfl, ?_⟩) (by assumption) ?_
            rotate_left 1
            · intro w hSw; (try dsimp only at hSw); go_simp; (with_reducible rfl)
            (try simp only [Act.put, List.getElem_toArray, List.getElem_cons_zero, List.getElem_cons_succ, List.setIfInBounds_toArray, List.set_cons_zero, List.set_cons_succ])
            refine wpAnyH_take1 (i := 2) (oi := _) (v := ?_) (by kernel_rfl) rfl (by kernel_rfl) (fun _ _ _ h => h) (Or.inl ⟨by rfl, ?_⟩) (by assumption) ?_
            rotate_left 1
            · intro w hSw; (try dsimp only at hSw); go_simp; (with_reducible rfl)
            (try simp only [Act.put, List.getElem_toArray, List.getElem_cons_zero, List.getElem_cons_succ, List.setIfInBounds_toArray, List.set_cons_zero, List.set_cons_succ])
            refine wpAnyH_take1 (i := 3) (oi := _) (v := ?_) (by kernel_rfl) rfl (by kernel_rfl) (fun _ _ _ h => h) (Or.inl ⟨by rfl, ?_⟩) (by assumption) ?_
            rotate_left 1
            · intro w hSw; (try dsimp only at hSw); go_simp; (with_reducible rfl)
            (try simp only [Act.put, List.getElem_toArray, List.getElem_cons_zero, List.getElem_cons_succ, List.setIfInBounds_toArray, List.set_cons_zero, List.set_cons_succ])
            refine wpAnyH_take1 (i := 4) (oi := _) (v := ?_) (by kernel_rfl) rfl (by kernel_rfl) (fun _ _ _ h => h) (Or.inl ⟨by rfl, ?_⟩) (by assumption) ?_
            rotate_left 1
            · intro w hSw; (try dsimp only at hSw); go_simp; (with_reducible rfl)
            (try simp only [Act.put, List.getElem_toArray, List.getElem_cons_zero, List.getElem_cons_succ, List.setIfInBounds_toArray, List.set_cons_zero, List.set_cons_succ])
            refine wpAnyH_take1 (i := 5) (oi := _) (v := ?_) (by kernel_rfl) rfl (by kernel_rfl) (fun _ _ _ h => h) (Or.inl ⟨by rfl, ?_⟩) (by assumption) ?_
            rotate_left 1
            · intro w hSw; (try dsimp only at hSw); go_simp; (with_reducible rfl)
            (try simp only [Act.put, List.getElem_toArray, List.getElem_cons_zero, List.getElem_cons_succ, List.setIfInBounds_toArray, List.set_cons_zero, List.set_cons_succ])
            refine wpAnyH_take1 (i := 6) (oi := _) (v := ?_) (by kernel_rfl) rfl (by kernel_rfl) (fun _ _ _ h => h) (Or.inl ⟨by rfl, ?_⟩) (by assumption) ?_
            rotate_left 1
            · intro w hSw; (try dsimp only at hSw); go_simp; (with_reducible rfl)
            (try simp only [Act.put, List.getElem_toArray, List.getElem_cons_zero, List.getElem_cons_succ, List.setIfInBounds_toArray, List.set_cons_zero, List.set_cons_succ])
            refine wpAnyH_one (i := 7) (by kernel_rfl) rfl (by rfl) fun K hK => ?_
            go_simp
            refine (same14 (UH.out.at Seq.way) (SH.out.at Seq.way)).mono ?_
            rintro e y201 ⟨rfl, hy201⟩
            have HY201 := below_step hy201 (Seq.way : Below W3.heap.size W3 _)
            have zy201 := HY201.size
            (try dsimp only)
            clear hHeld
            refine hK.out _ _ (Hkeep HY201).out fun hHeld => ?_
            clear hK K
            (try simp only [Act.put, List.getElem_toArray, List.getElem_cons_zero, List.getElem_cons_succ, List.setIfInBounds_toArray, List.set_cons_zero, List.set_cons_succ])
            refine wpAnyH_take1 (i := 8) (oi := _) (v := ?_) (by kernel_rfl) rfl (by kernel_rfl) (fun _ _ _ h => h) (Or.inl ⟨by rfl, ?_⟩) (by assumption) ?_
            rotate_left 1
            · intro w hSw; (try dsimp only at hSw); go_simp; (with_reducible rfl)
            (try simp only [Act.put, List.getElem_toArray, List.getElem_cons_zero, List.getElem_cons_succ, List.setIfInBounds_toArray, List.set_cons_zero, List.set_cons_succ])
            refine wpAnyH_take1 (i := 9) (oi := _) (v := ?_) (by kernel_rfl) rfl (by kernel_rfl) (fun _ _ _ h => h) (Or.inl ⟨by rfl, ?_⟩) (by assumption) ?_
            rotate_left 1
            · intro w hSw; (try dsimp only at hSw); go_simp; (with_reducible rfl)
            (try simp only [Act.put, List.getElem_toArray, List.getElem_cons_zero, List.getElem_cons_succ, List.setIfInBounds_toArray, List.set_cons_zero, List.set_cons_succ])
            refine wpAnyH_take1 (i := 10) (oi := _) (v := ?_) (by kernel_rfl) rfl (by kernel_rfl) (fun _ _ _ h => h) (Or.inl ⟨by rfl, ?_⟩) (by assumption) ?_
            rotate_left 1
            · intro w hSw; (try dsimp only at hSw); go_simp; (with_reducible rfl)
            (try simp only [Act.put, List.getElem_toArray, List.getElem_cons_zero, List.getElem_cons_succ, List.setIfInBounds_toArray, List.set_cons_zero, List.set_cons_succ])
            refine wpAnyH_take1 (i := 11) (oi := _) (v := ?_) (by kernel_rfl) rfl (by kernel_rfl) (fun _ _ _ h => h) (Or.inl ⟨by rfl, ?_⟩) (by assumption) ?_
            rotate_left 1
            · intro w hSw; (try dsimp only at hSw); go_simp; (with_reducible rfl)
            (try simp only [Act.put, List.getElem_toArray, List.getElem_cons_zero, List.getElem_cons_succ, List.setIfInBounds_toArray, List.set_cons_zero, List.set_cons_succ])
            refine wpAnyH_take1 (i := 12) (oi := _) (v := ?_) (by kernel_rfl) rfl (by kernel_rfl) (fun _ _ _ h => h) (Or.inl ⟨by rfl, ?_⟩) (by assumption) ?_
            rotate_left 1
            · intro w hSw; (try dsimp only at hSw); go_simp; (with_reducible rfl)
            (try simp only [Act.put, List.getElem_toArray, List.getElem_cons_zero, List.getElem_cons_succ, List.setIfInBounds_toArray, List.set_cons_zero, List.set_cons_succ])
            refine wpAnyH_take1 (i := 13) (oi := _) (v := ?_) (by kernel_rfl) rfl (by kernel_rfl) (fun _ _ _ h => h) (Or.inl ⟨by rfl, ?_⟩) (by assumption) ?_
            rotate_left 1
            · intro w hSw; (try dsimp only at hSw); go_simp; (with_reducible rfl)
            (try simp only [Act.put, List.getElem_toArray, List.getElem_cons_zero, List.getElem_cons_succ, List.setIfInBounds_toArray, List.set_cons_zero, List.set_cons_succ])
            refine wpAnyH_take1 (i := 14) (oi := _) (v := ?_) (by kernel_rfl) rfl (by kernel_rfl) (fun _ _ _ h => h) (Or.inl ⟨by rfl, ?_⟩) (by assumption) ?_
            rotate_left 1
            · intro w hSw; (try dsimp only at hSw); go_simp; (with_reducible rfl)
            (try simp only [Act.put, List.getElem_toArray, List.getElem_cons_zero, List.getElem_cons_succ, List.setIfInBounds_toArray, List.set_cons_zero, List.set_cons_succ])
            refine wpAnyH_take1 (i := 15) (oi := _) (v := ?_) (by kernel_rfl) rfl (by kernel_rfl) (fun _ _ _ h => h) (Or.inl ⟨by rfl, ?_⟩) (by assumption) ?_
            rotate_left 1
            · intro w hSw; (try dsimp only at hSw); go_simp; (with_reducible rfl)
            (try simp only [Act.put, List.getElem_toArray, List.getElem_cons_zero, List.getElem_cons_succ, List.setIfInBounds_toArray, List.set_cons_zero, List.set_cons_succ])
            refine wpAnyH_take1 (i := 16) (oi := _) (v := ?_) (by kernel_rfl) rfl (by kernel_rfl) (fun _ _ _ h => h) (Or.inl ⟨by rfl, ?_⟩) (by assumption) ?_
            rotate_left 1
            · intro w hSw; (try dsimp only at hSw); go_simp; (with_reducible rfl)
            (try simp only [Act.put, List.getElem_toArray, List.getElem_cons_zero, List.getElem_cons_succ, List.setIfInBounds_toArray, List.set_cons_zero, List.set_cons_succ])
            refine wpAnyH_take1 (i := 17) (oi := _) (v := ?_) (by kernel_rfl) rfl (by kernel_rfl) (fun _ _ _ h => h) (Or.inl ⟨by rfl, ?_⟩) (by assumption) ?_
            rotate_left 1
            · intro w hSw; (try dsimp only at hSw); go_simp; (with_reducible rfl)
            (try simp only [Act.put, List.getElem_toArray, List.getElem_cons_zero, List.getElem_cons_succ, List.setIfInBounds_toArray, List.set_cons_zero, List.set_cons_succ])
            refine wpAnyH_take1 (i := 18) (oi := _) (v := ?_) (by kernel_rfl) rfl (by kernel_rfl) (fun _ _ _ h => h) (Or.inl ⟨by rfl, ?_⟩) (by assumption) ?_
            rotate_left 1
            · intro w hSw; (try dsimp only at hSw); go_simp; (with_reducible rfl)
            (try simp only [Act.put, List.getElem_toArray, List.getElem_cons_zero, List.getElem_cons_succ, List.setIfInBounds_toArray, List.set_cons_zero, List.set_cons_succ])
            refine wpAnyH_take1 (i := 19) (oi := _) (v := ?_) (by kernel_rfl) rfl (by kernel_rfl) (fun _ _ _ h => h) (Or.inl ⟨by rfl, ?_⟩) (by assumption) ?_
            rotate_left 1
            · intro w hSw; (try dsimp only at hSw); go_simp; (with_reducible rfl)
            (try simp only [Act.put, List.getElem_toArray, List.getElem_cons_zero, List.getElem_cons_succ, List.setIfInBounds_toArray, List.set_cons_zero, List.set_cons_succ])
            refine wpAnyH_take1 (i := 20) (oi := _) (v := ?_) (by kernel_rfl) rfl (by kernel_rfl) (fun _ _ _ h => h) (Or.inl ⟨by rfl, ?_⟩) (by assumption) ?_
            rotate_left 1
            · intro w hSw; (try dsimp only at hSw); go_simp; (with_reducible rfl)
            (try simp only [Act.put, List.getElem_toArray, List.getElem_cons_zero, List.getElem_cons_succ, List.setIfInBounds_toArray, List.set_cons_zero, List.set_cons_succ])
            refine wpAnyH_done (by kernel_rfl) ?_ _
            refine NoPanic.normal ?_
            clear Hkeep x0 s0
            have x1 := (HY201.cell (p := ⟨bq, 1, none⟩) xl).trans x1
            have s1 := (HY201.cell (p := ⟨sb, so + k * 2 + 1, none⟩) slt).trans s1
            have xl := Nat.lt_of_lt_of_le xl HY201.size
            have slt := Nat.lt_of_lt_of_le slt HY201.size
            have KA := Lib.hid (KA.out.at HY201)
            have SA := Lib.hid (SA.out.at HY201)
            have UA := Lib.hid (UA.out.at HY201)
            have Z4 := Lib.hid (below_step HY201 Z3.out)
            obtain ⟨W4, hW4⟩ : ∃ z, z = y201 := ⟨_, rfl⟩
            rw [← hW4] at x1 s1 xl slt KA SA UA Z4 ⊢
            clear hy201 zy201 HY201 UH SH Z3 hW4
            clear XR
            have hyl2 : y.ans.length ≤ 140737488355328 := by omega
            go_wp2_with fail
            go_loopw [9] (fun i wr => ∃ (q : Nat), q ≤ y.ans.length ∧ i = .int .i64 q ∧ Hid (Below W4.heap.size W4 wr)) (fun i _ => y.ans.length - (intOf i).toNat)
            case atStart => exact ⟨0, Nat.zero_le _, rfl, Lib.hid (by first | exact Below.refl _ _ | exact Seq.way)⟩
            case round =>
              obtain ⟨q, hq, rfl, hbq⟩ := hrel
              obtain ⟨wi, rfl⟩ : ∃ wi, wi = wr := ⟨_, rfl⟩
              by_cases hql : q < y.ans.length
              · have hqI : (q : Int) < (y.ans.length : Int) := by omega
                have hq0 : (0 : Int) ≤ (q : Int) := by omega
                have hqt : ((q : Int)).toNat = q := Int.toNat_natCast q
                have KA2 := Lib.hid (KA.out.at hbq.out)
                by_cases hq1 : q = 0
                · have hqz : decide ((0 : Int) < (q : Int)) = false := decide_eq_false (by omega)
                  have hqz2 : decide (0 < q) = false := decide_eq_false (by omega)
                  clear hq1
                  go_upto_region 18 with fail
                  have Hkeep := fun {Wk : World} (_ : Below wi.heap.size wi Wk) => Lib.hid True.intro
                  (try simp only [List.append_eq, List.cons_append, List.nil_append])
                  refine wp_region_noPanic ?_
                  refine wp_region_held_drew (S := fun w' => True) (by kernel_rfl) ?_ (fun hHeld => ?_)
                  · exact (Hkeep (Below.drew (Below.refl _ _))).out
                  refine wpAnyH_take1 (i := 0) (oi := _) (v := ?_) (by kernel_rfl) rfl (by kernel_rfl) (fun _ _ _ h => h) (Or.inl ⟨by rfl, ?_⟩) (by assumption) ?_
                  rotate_left 1
                  · intro w hSw; (try dsimp only at hSw); go_simp; (with_reducible rfl)
                  (try simp only [Act.put, List.getElem_toArray, List.getElem_cons_zero, List.setIfInBounds_toArray, List.set_cons_zero, List.set_cons_succ])
                  refine wpAnyH_take1 (i := 1) (oi := _) (v := ?_) (by kernel_rfl) rfl (by kernel_rfl) (fun _ _ _ h => h) (Or.inl ⟨by rfl, ?_⟩) (by assumption) ?_
                  rotate_left 1
                  · intro w hSw; (try dsimp only at hSw); go_simp; (with_reducible rfl)
                  (try simp only [Act.put, List.getElem_toArray, List.getElem_cons_zero, List.getElem_cons_succ, List.setIfInBounds_toArray, List.set_cons_zero, List.set_cons_succ])
                  refine wpAnyH_take1 (i := 2) (oi := _) (v := ?_) (by kernel_rfl) rfl (by kernel_rfl) (fun _ _ _ h => h) (Or.inl ⟨by rfl, ?_⟩) (by assumption) ?_
                  rotate_left 1
                  · intro w hSw; (try dsimp only at hSw); go_simp; (with_reducible rfl)
                  (try simp only [Act.put, List.getElem_toArray, List.getElem_cons_zero, List.getElem_cons_succ, List.setIfInBounds_toArray, List.set_cons_zero, List.set_cons_succ])
                  refine wpAnyH_take1 (i := 3) (oi := _) (v := undef) (by kernel_rfl) rfl (by kernel_rfl) (fun _ _ _ h => h) (Or.inr ⟨by rfl, rfl⟩) (by assumption) ?_
                  (try simp only [Act.put, List.getElem_toArray, List.getElem_cons_zero, List.getElem_cons_succ, List.setIfInBounds_toArray, List.set_cons_zero, List.set_cons_succ])
                  refine wpAnyH_take1 (i := 4) (oi := _) (v := undef) (by kernel_rfl) rfl (by kernel_rfl) (fun _ _ _ h => h) (Or.inr ⟨by rfl, rfl⟩) (by assumption) ?_
                  (try simp only [Act.put, List.getElem_toArray, List.getElem_cons_zero, List.getElem_cons_succ, List.setIfInBounds_toArray, List.set_cons_zero, List.set_cons_succ])
                  refine wpAnyH_take1 (i := 5) (oi := _) (v := undef) (by kernel_rfl) rfl (by kernel_rfl) (fun _ _ _ h => h) (Or.inr ⟨by rfl, rfl⟩) (by assumption) ?_
                  (try simp only [Act.put, List.getElem_toArray, List.getElem_cons_zero, List.getElem_cons_succ, List.setIfInBounds_toArray, List.set_cons_zero, List.set_cons_succ])
                  refine wpAnyH_take1 (i := 6) (oi := _) (v := undef) (by kernel_rfl) rfl (by kernel_rfl) (fun _ _ _ h => h) (Or.inr ⟨by rfl, rfl⟩) (by assumption) ?_
                  (try simp only [Act.put, List.getElem_toArray, List.getElem_cons_zero, List.getElem_cons_succ, List.setIfInBounds_toArray, List.set_cons_zero, List.set_cons_succ])
                  refine wpAnyH_take1 (i := 7) (oi := _) (v := undef) (by kernel_rfl) rfl (by kernel_rfl) (fun _ _ _ h => h) (Or.inr ⟨by rfl, rfl⟩) (by assumption) ?_
                  (try simp only [Act.put, List.getElem_toArray, List.getElem_cons_zero, List.getElem_cons_succ, List.setIfInBounds_toArray, List.set_cons_zero, List.set_cons_succ])
                  refine wpAnyH_take1 (i := 8) (oi := _) (v := undef) (by kernel_rfl) rfl (by kernel_rfl) (fun _ _ _ h => h) (Or.inr ⟨by rfl, rfl⟩) (by assumption) ?_
                  (try simp only [Act.put, List.getElem_toArray, List.getElem_cons_zero, List.getElem_cons_succ, List.setIfInBounds_toArray, List.set_cons_zero, List.set_cons_succ])
                  refine wpAnyH_take1 (i := 9) (oi := _) (v := undef) (by kernel_rfl) rfl (by kernel_rfl) (fun _ _ _ h => h) (Or.inr ⟨by rfl, rfl⟩) (by assumption) ?_
                  (try simp only [Act.put, List.getElem_toArray, List.getElem_cons_zero, List.getElem_cons_succ, List.setIfInBounds_toArray, List.set_cons_zero, List.set_cons_succ])
                  refine wpAnyH_take1 (i := 10) (oi := _) (v := undef) (by kernel_rfl) rfl (by kernel_rfl) (fun _ _ _ h => h) (Or.inr ⟨by rfl, rfl⟩) (by assumption) ?_
                  (try simp only [Act.put, List.getElem_toArray, List.getElem_cons_zero, List.getElem_cons_succ, List.setIfInBounds_toArray, List.set_cons_zero, List.set_cons_succ])
                  refine wpAnyH_take1 (i := 11) (oi := _) (v := undef) (by kernel_rfl) rfl (by kernel_rfl) (fun _ _ _ h => h) (Or.inr ⟨by rfl, rfl⟩) (by assumption) ?_
                  (try simp only [Act.put, List.getElem_toArray, List.getElem_cons_zero, List.getElem_cons_succ, List.setIfInBounds_toArray, List.set_cons_zero, List.set_cons_succ])
                  refine wpAnyH_take1 (i := 12) (oi := _) (v := undef) (by kernel_rfl) rfl (by kernel_rfl) (fun _ _ _ h => h) (Or.inr ⟨by rfl, rfl⟩) (by assumption) ?_
                  (try simp only [Act.put, List.getElem_toArray, List.getElem_cons_zero, List.getElem_cons_succ, List.setIfInBounds_toArray, List.set_cons_zero, List.set_cons_succ])
                  refine wpAnyH_take1 (i := 13) (oi := _) (v := undef) (by kernel_rfl) rfl (by kernel_rfl) (fun _ _ _ h => h) (Or.inr ⟨by rfl, rfl⟩) (by assumption) ?_
                  (try simp only [Act.put, List.getElem_toArray, List.getElem_cons_zero, List.getElem_cons_succ, List.setIfInBounds_toArray, List.set_cons_zero, List.set_cons_succ])
                  refine wpAnyH_take1 (i := 14) (oi := _) (v := ?_) (by kernel_rfl) rfl (by kernel_rfl) (fun _ _ _ h => h) (Or.inl ⟨by rfl, ?_⟩) (by assumption) ?_
                  rotate_left 1
                  · intro w hSw; (try dsimp only at hSw); go_simp; (with_reducible rfl)
                  (try simp only [Act.put, List.getElem_toArray, List.getElem_cons_zero, List.getElem_cons_succ, List.setIfInBounds_toArray, List.set_cons_zero, List.set_cons_succ])
                  refine wpAnyH_done (by kernel_rfl) ?_ _
                  refine NoPanic.normal ?_
                  clear Hkeep hqz hqz2
                  have Z5 := Lib.hid (show Below W4.heap.size W4 wi.drew from hbq.out.drew)
                  go_wp2_with fail
                  go_roundw
                  case rel => exact ⟨q + 1, hql, by go_num, Z5⟩
                  case measure => simp [intOf]; omega
                · obtain ⟨r, hrq⟩ : ∃ r, r + 1 = q := ⟨q - 1, by omega⟩
                  have hql' : y.ans[q]? = some y.ans[q] := List.getElem?_eq_getElem hql
                  have hrl' : y.ans[r]? = some y.ans[r] := List.getElem?_eq_getElem (by omega)
                  have Hlow := Lib.hid (show cmpT y.ans[r] y.ans[q] < 0 from List.pairwise_iff_getElem.1 hya.out r q (by omega) hql (by omega))
                  have Hr1 := Lib.hid (hyr.out.2.2 _ (List.getElem_mem (show r < y.ans.length by omega)))
                  have Hr2 := Lib.hid (hyr.out.2.2 _ (List.getElem_mem hql))
                  obtain ⟨t1, ht1⟩ : ∃ t, t = y.ans[r] := ⟨_, rfl⟩
                  obtain ⟨t2, ht2⟩ : ∃ t, t = y.ans[q] := ⟨_, rfl⟩
                  rw [← ht1] at hrl' Hlow Hr1
                  rw [← ht2] at hql' Hlow Hr2
                  obtain ⟨kb, ko, ka1, kc1, rfl, klt, k1, kH1⟩ := termK KA2.out hrl'
                  obtain ⟨kb2, ko2, ka2, kc2, ke, -, k2, kH2⟩ := termK KA2.out hql'
                  simp only [Option.some.injEq, Addr.mk.injEq, and_true] at ke
                  obtain ⟨rfl, rfl⟩ := ke
                  have KH1 := Lib.hid kH1
                  have KH2 := Lib.hid kH2
                  have hw1 : IntKind.i64.wrap ((q : Int) - 1) = (r : Int) := by rw [IntKind.wrap_i64]; omega
                  have hrI : (r : Int) < (y.ans.length : Int) := by omega
                  have hr0 : (0 : Int) ≤ (r : Int) := by omega
                  have hrt : ((r : Int)).toNat = r := Int.toNat_natCast r
                  have hqz : decide ((0 : Int) < (q : Int)) = true := decide_eq_true (by omega)
                  have hqz2 : decide (0 < q) = true := decide_eq_true (by omega)
                  obtain ⟨z, hz⟩ : ∃ z, cmpT t1 t2 = z := ⟨_, rfl⟩
                  have Hz := Lib.hid hz
                  have hzn : z < 0 := by rw [← hz]; exact Hlow.out
                  have hzd : decide (0 ≤ z) = false := decide_eq_false (by omega)
                  clear hq1 kH1 kH2 hz hrq Hlow hrl' hql' ht1 ht2
                  go_upto_region 18 with fail
                  have Hkeep := fun {Wk : World} (hW : Below wi.heap.size wi Wk) => Lib.hid (show Wk.cell? ⟨kb, ko + r, none⟩ = some (.slice ka1 t1.length kc1) ∧ Wk.cell? ⟨kb, ko + q, none⟩ = some (.slice ka2 t2.length kc2) from ⟨(hW.cell (p := ⟨kb, ko + r, none⟩) klt).trans k1, (hW.cell (p := ⟨kb, ko + q, none⟩) klt).trans k2⟩)
                  (try simp only [List.append_eq, List.cons_append, List.nil_append])
                  refine wp_region_noPanic ?_
                  refine wp_region_held_drew (S := fun w' => w'.cell? ⟨kb, ko + r, none⟩ = some (.slice ka1 t1.length kc1) ∧ w'.cell? ⟨kb, ko + q, none⟩ = some (.slice ka2 t2.length kc2)) (by kernel_rfl) ?_ (fun hHeld => ?_)
                  · exact (Hkeep (Below.drew (Below.refl _ _))).out
                  refine wpAnyH_take1 (i := 0) (oi := _) (v := ?_) (by kernel_rfl) rfl (by kernel_rfl) (fun _ _ _ h => h) (Or.inl ⟨by rfl, ?_⟩) (by assumption) ?_
                  rotate_left 1
                  · intro w hSw; (try dsimp only at hSw); go_simp; (with_reducible rfl)
                  (try simp only [Act.put, List.getElem_toArray, List.getElem_cons_zero, List.setIfInBounds_toArray, List.set_cons_zero, List.set_cons_succ])
                  refine wpAnyH_take1 (i := 1) (oi := _) (v := ?_) (by kernel_rfl) rfl (by kernel_rfl) (fun _ _ _ h => h) (Or.inl ⟨by rfl, ?_⟩) (by assumption) ?_
                  rotate_left 1
                  · intro w hSw; (try dsimp only at hSw); go_simp; (with_reducible rfl)
                  (try simp only [Act.put, List.getElem_toArray, List.getElem_cons_zero, List.getElem_cons_succ, List.setIfInBounds_toArray, List.set_cons_zero, List.set_cons_succ])
                  refine wpAnyH_take1 (i := 2) (oi := _) (v := ?_) (by kernel_rfl) rfl (by kernel_rfl) (fun _ _ _ h => h) (Or.inl ⟨by rfl, ?_⟩) (by assumption) ?_
                  rotate_left 1
                  · intro w hSw; (try dsimp only at hSw); go_simp; (with_reducible rfl)
                  (try simp only [Act.put, List.getElem_toArray, List.getElem_cons_zero, List.getElem_cons_succ, List.setIfInBounds_toArray, List.set_cons_zero, List.set_cons_succ])
                  refine wpAnyH_take1 (i := 3) (oi := _) (v := ?_) (by kernel_rfl) rfl (by kernel_rfl) (fun _ _ _ h => h) (Or.inl ⟨by rfl, ?_⟩) (by assumption) ?_
                  rotate_left 1
                  · intro w hSw; (try dsimp only at hSw); go_simp; (with_reducible rfl)
                  (try simp only [Act.put, List.getElem_toArray, List.getElem_cons_zero, List.getElem_cons_succ, List.setIfInBounds_toArray, List.set_cons_zero, List.set_cons_succ])
                  refine wpAnyH_take1 (i := 4) (oi := _) (v := ?_) (by kernel_rfl) rfl (by kernel_rfl) (fun _ _ _ h => h) (Or.inl ⟨by rfl, ?_⟩) (by assumption) ?_
                  rotate_left 1
                  · intro w hSw; (try dsimp only at hSw); go_simp; (with_reducible rfl)
                  (try simp only [Act.put, List.getElem_toArray, List.getElem_cons_zero, List.getElem_cons_succ, List.setIfInBounds_toArray, List.set_cons_zero, List.set_cons_succ])
                  refine wpAnyH_take1 (i := 5) (oi := _) (v := ?_) (by kernel_rfl) rfl (by kernel_rfl) (fun _ _ _ h => h) (Or.inl ⟨by rfl, ?_⟩) (by assumption) ?_
                  rotate_left 1
                  · intro w hSw; (try dsimp only at hSw); go_simp; (with_reducible rfl)
                  (try simp only [Act.put, List.getElem_toArray, List.getElem_cons_zero, List.getElem_cons_succ, List.setIfInBounds_toArray, List.set_cons_zero, List.set_cons_succ])
                  refine wpAnyH_take1 (i := 6) (oi := _) (v := ?_) (by kernel_rfl) rfl (by kernel_rfl) (fun _ _ _ h => h) (Or.inl ⟨by rfl, ?_⟩) (by assumption) ?_
                  rotate_left 1
                  · intro w hSw; (try dsimp only at hSw); go_simp; (with_reducible rfl)
                  (try simp only [Act.put, List.getElem_toArray, List.getElem_cons_zero, List.getElem_cons_succ, List.setIfInBounds_toArray, List.set_cons_zero, List.set_cons_succ])
                  refine wpAnyH_take1 (i := 7) (oi := _) (v := ?_) (by kernel_rfl) rfl (by kernel_rfl) (fun _ _ _ h => h) (Or.inl ⟨by rfl, ?_⟩) (by assumption) ?_
                  rotate_left 1
                  · intro w hSw; (try dsimp only at hSw); go_simp; (with_reducible rfl)
                  (try simp only [Act.put, List.getElem_toArray, List.getElem_cons_zero, List.getElem_cons_succ, List.setIfInBounds_toArray, List.set_cons_zero, List.set_cons_succ])
                  refine wpAnyH_take1 (i := 8) (oi := _) (v := ?_) (by kernel_rfl) rfl (by kernel_rfl) (fun _ _ _ h => h) (Or.inl ⟨by rfl, ?_⟩) (by assumption) ?_
                  rotate_left 1
                  · intro w hSw; (try dsimp only at hSw); go_simp; (with_reducible rfl)
                  (try simp only [Act.put, List.getElem_toArray, List.getElem_cons_zero, List.getElem_cons_succ, List.setIfInBounds_toArray, List.set_cons_zero, List.set_cons_succ])
                  refine wpAnyH_take1 (i := 9) (oi := _) (v := ?_) (by kernel_rfl) rfl (by kernel_rfl) (fun _ _ _ h => h) (Or.inl ⟨by rfl, ?_⟩) (by assumption) ?_
                  rotate_left 1
                  · intro w hSw; (try dsimp only at hSw); go_simp; (with_reducible rfl)
                  (try simp only [Act.put, List.getElem_toArray, List.getElem_cons_zero, List.getElem_cons_succ, List.setIfInBounds_toArray, List.set_cons_zero, List.set_cons_succ])
                  refine wpAnyH_take1 (i := 10) (oi := _) (v := ?_) (by kernel_rfl) rfl (by kernel_rfl) (fun _ _ _ h => h) (Or.inl ⟨by rfl, ?_⟩) (by assumption) ?_
                  rotate_left 1
                  · intro w hSw; (try dsimp only at hSw); go_simp; (with_reducible rfl)
                  (try simp only [Act.put, List.getElem_toArray, List.getElem_cons_zero, List.getElem_cons_succ, List.setIfInBounds_toArray, List.set_cons_zero, List.set_cons_succ])
                  refine wpAnyH_take1 (i := 11) (oi := _) (v := ?_) (by kernel_rfl) rfl (by kernel_rfl) (fun _ _ _ h => h) (Or.inl ⟨by rfl, ?_⟩) (by assumption) ?_
                  rotate_left 1
                  · intro w hSw; (try dsimp only at hSw); go_simp; (with_reducible rfl)
                  (try simp only [Act.put, List.getElem_toArray, List.getElem_cons_zero, List.getElem_cons_succ, List.setIfInBounds_toArray, List.set_cons_zero, List.set_cons_succ])
                  refine wpAnyH_one (i := 12) (by kernel_rfl) rfl (by rfl) fun K hK => ?_
                  go_simp
                  refine (cmpN14 Hz.out Hr1.out Hr2.out (KH1.out.at Seq.way) (KH2.out.at Seq.way)).mono ?_
                  rintro e y301 ⟨rfl, hy301⟩
                  have HY301 := below_step hy301 (Seq.way : Below wi.heap.size wi _)
                  have zy301 := HY301.size
                  (try dsimp only)
                  clear hHeld
                  refine hK.out _ _ (Hkeep HY301).out fun hHeld => ?_
                  clear hK K
                  (try simp only [Act.put, List.getElem_toArray, List.getElem_cons_zero, List.getElem_cons_succ, List.setIfInBounds_toArray, List.set_cons_zero, List.set_cons_succ])
                  refine wpAnyH_take1 (i := 13) (oi := _) (v := ?_) (by kernel_rfl) rfl (by kernel_rfl) (fun _ _ _ h => h) (Or.inl ⟨by rfl, ?_⟩) (by assumption) ?_
                  rotate_left 1
                  · intro w hSw; (try dsimp only at hSw); go_simp; (with_reducible rfl)
                  (try simp only [Act.put, List.getElem_toArray, List.getElem_cons_zero, List.getElem_cons_succ, List.setIfInBounds_toArray, List.set_cons_zero, List.set_cons_succ])
                  refine wpAnyH_take1 (i := 14) (oi := _) (v := ?_) (by kernel_rfl) rfl (by kernel_rfl) (fun _ _ _ h => h) (Or.inl ⟨by rfl, ?_⟩) (by assumption) ?_
                  rotate_left 1
                  · intro w hSw; (try dsimp only at hSw); go_simp; (with_reducible rfl)
                  (try simp only [Act.put, List.getElem_toArray, List.getElem_cons_zero, List.getElem_cons_succ, List.setIfInBounds_toArray, List.set_cons_zero, List.set_cons_succ])
                  refine wpAnyH_done (by kernel_rfl) ?_ _
                  refine NoPanic.normal ?_
                  clear Hkeep hqz hqz2 hrI hr0 hrt hzn hzd hw1 k1 k2 klt
                  have Z5 := Lib.hid (show Below W4.heap.size W4 y301 from below_step HY301 hbq.out)
                  clear hy301 HY301 zy301
                  go_wp2_with fail
                  go_roundw
                  case rel => exact ⟨q + 1, hql, by go_num, Z5⟩
                  case measure => simp [intOf]; omega
              · obtain rfl : q = y.ans.length := by omega
                have hqI : ¬ (y.ans.length : Int) < (y.ans.length : Int) := by omega
                have x1 := (hbq.out.cell (p := ⟨bq, 1, none⟩) xl).trans x1
                have s1 := (hbq.out.cell (p := ⟨sb, so + k * 2 + 1, none⟩) slt).trans s1
                have xl := Nat.lt_of_lt_of_le xl hbq.out.size
                have slt := Nat.lt_of_lt_of_le slt hbq.out.size
                have SA := Lib.hid (SA.out.at hbq.out)
                have UA := Lib.hid (UA.out.at hbq.out)
                have Z6 := Lib.hid (below_step hbq.out Z4.out)
                obtain ⟨W6, hW6⟩ : ∃ z, z = wi := ⟨_, rfl⟩
                rw [← hW6] at x1 s1 xl slt SA UA Z6 ⊢
                clear hql hbq hW6 KA Z4
                have hxl2 : x.ans.length ≤ 140737488355328 := by omega
                go_wp2_with fail
                clear hqI
                go_loopw [10] (fun i wr => ∃ (q : Nat), q ≤ x.ans.length ∧ i = .int .i64 q ∧ Hid (Below W6.heap.size W6 wr)) (fun i _ => x.ans.length - (intOf i).toNat)
                case atStart => exact ⟨0, Nat.zero_le _, rfl, Lib.hid (by first | exact Below.refl _ _ | exact Seq.way)⟩
                case round =>
                  obtain ⟨q, hq, rfl, hbq⟩ := hrel
                  obtain ⟨wi, rfl⟩ : ∃ wi, wi = wr := ⟨_, rfl⟩
                  have x1 := (hbq.out.cell (p := ⟨bq, 1, none⟩) xl).trans x1
                  have s1 := (hbq.out.cell (p := ⟨sb, so + k * 2 + 1, none⟩) slt).trans s1
                  have xl := Nat.lt_of_lt_of_le xl hbq.out.size
                  have slt := Nat.lt_of_lt_of_le slt hbq.out.size
                  have SA := Lib.hid (SA.out.at hbq.out)
                  have UA := Lib.hid (UA.out.at hbq.out)
                  by_cases hql : q < x.ans.length
                  · have hqI : (q : Int) < (x.ans.length : Int) := by omega
                    have hq0 : (0 : Int) ≤ (q : Int) := by omega
                    have hqt : ((q : Int)).toNat = q := Int.toNat_natCast q
                    have hqm : q < m.length := by rw [Hln.out]; exact hql
                    have hql' : m[q]? = some m[q] := List.getElem?_eq_getElem hqm
                    have Hhas := Lib.hid (Hmem.out _ (List.getElem_mem hqm))
                    obtain ⟨t1, ht1⟩ : ∃ t, t = m[q] := ⟨_, rfl⟩
                    rw [← ht1] at hql' Hhas
                    obtain ⟨kb, ko, ka1, kc1, rfl, klt, k1, kH1⟩ := termK UA.out hql'
                    have KH1 := Lib.hid kH1
                    clear kH1 hql' ht1
                    go_upto_region 23 with fail
                    have Hkeep := fun {Wk : World} (hW : Below wi.heap.size wi Wk) => Lib.hid (show Wk.cell? ⟨bq, 1, none⟩ = some (.slice (some ⟨kb, ko, none⟩) x.ans.length ud) ∧ Wk.cell? ⟨sb, so + k * 2 + 1, none⟩ = some (.slice sl x.ans.length sd) ∧ Wk.cell? ⟨kb, ko + q, none⟩ = some (.slice ka1 t1.length kc1) from ⟨(hW.cell (p := ⟨bq, 1, none⟩) xl).trans x1, (hW.cell (p := ⟨sb, so + k * 2 + 1, none⟩) slt).trans s1, (hW.cell (p := ⟨kb, ko + q, none⟩) klt).trans k1⟩)
                    (try simp only [List.append_eq, List.cons_append, List.nil_append])
                    refine wp_region_noPanic ?_
                    refine wp_region_held_drew (S := fun w' => w'.cell? ⟨bq, 1, none⟩ = some (.slice (some ⟨kb, ko, none⟩) x.ans.length ud) ∧ w'.cell? ⟨sb, so + k * 2 + 1, none⟩ = some (.slice sl x.ans.length sd) ∧ w'.cell? ⟨kb, ko + q, none⟩ = some (.slice ka1 t1.length kc1)) (by kernel_rfl) ?_ (fun hHeld => ?_)
                    · exact (Hkeep (Below.drew (Below.refl _ _))).out
                    refine wpAnyH_take1 (i := 0) (oi := _) (v := ?_) (by kernel_rfl) rfl (by kernel_rfl) (fun _ _ _ h => h) (Or.inl ⟨by rfl, ?_⟩) (by assumption) ?_
                    rotate_left 1
                    · intro w hSw; (try dsimp only at hSw); go_simp; (with_reducible rfl)
                    (try simp only [Act.put, List.getElem_toArray, List.getElem_cons_zero, List.setIfInBounds_toArray, List.set_cons_zero, List.set_cons_succ])
                    refine wpAnyH_take1 (i := 1) (oi := _) (v := ?_) (by kernel_rfl) rfl (by kernel_rfl) (fun _ _ _ h => h) (Or.inl ⟨by rfl, ?_⟩) (by assumption) ?_
                    rotate_left 1
                    · intro w hSw; (try dsimp only at hSw); go_simp; (with_reducible rfl)
                    (try simp only [Act.put, List.getElem_toArray, List.getElem_cons_zero, List.getElem_cons_succ, List.setIfInBounds_toArray, List.set_cons_zero, List.set_cons_succ])
                    refine wpAnyH_take1 (i := 2) (oi := _) (v := ?_) (by kernel_rfl) rfl (by kernel_rfl) (fun _ _ _ h => h) (Or.inl ⟨by rfl, ?_⟩) (by assumption) ?_
                    rotate_left 1
                    · intro w hSw; (try dsimp only at hSw); go_simp; (with_reducible rfl)
                    (try simp only [Act.put, List.getElem_toArray, List.getElem_cons_zero, List.getElem_cons_succ, List.setIfInBounds_toArray, List.set_cons_zero, List.set_cons_succ])
                    refine wpAnyH_take1 (i := 3) (oi := _) (v := ?_) (by kernel_rfl) rfl (by kernel_rfl) (fun _ _ _ h => h) (Or.inl ⟨by rfl, ?_⟩) (by assumption) ?_
                    rotate_left 1
                    · intro w hSw; (try dsimp only at hSw); go_simp; (with_reducible rfl)
                    (try simp only [Act.put, List.getElem_toArray, List.getElem_cons_zero, List.getElem_cons_succ, List.setIfInBounds_toArray, List.set_cons_zero, List.set_cons_succ])
                    refine wpAnyH_take1 (i := 4) (oi := _) (v := ?_) (by kernel_rfl) rfl (by kernel_rfl) (fun _ _ _ h => h) (Or.inl ⟨by rfl, ?_⟩) (by assumption) ?_
                    rotate_left 1
                    · intro w hSw; (try dsimp only at hSw); go_simp; (with_reducible rfl)
                    (try simp only [Act.put, List.getElem_toArray, List.getElem_cons_zero, List.getElem_cons_succ, List.setIfInBounds_toArray, List.set_cons_zero, List.set_cons_succ])
                    refine wpAnyH_take1 (i := 5) (oi := _) (v := ?_) (by kernel_rfl) rfl (by kernel_rfl) (fun _ _ _ h => h) (Or.inl ⟨by rfl, ?_⟩) (by assumption) ?_
                    rotate_left 1
                    · intro w hSw; (try dsimp only at hSw); go_simp; (with_reducible rfl)
                    (try simp only [Act.put, List.getElem_toArray, List.getElem_cons_zero, List.getElem_cons_succ, List.setIfInBounds_toArray, List.set_cons_zero, List.set_cons_succ])
                    refine wpAnyH_take1 (i := 6) (oi := _) (v := ?_) (by kernel_rfl) rfl (by kernel_rfl) (fun _ _ _ h => h) (Or.inl ⟨by rfl, ?_⟩) (by assumption) ?_
                    rotate_left 1
                    · intro w hSw; (try dsimp only at hSw); go_simp; (with_reducible rfl)
                    (try simp only [Act.put, List.getElem_toArray, List.getElem_cons_zero, List.getElem_cons_succ, List.setIfInBounds_toArray, List.set_cons_zero, List.set_cons_succ])
                    refine wpAnyH_take1 (i := 7) (oi := _) (v := ?_) (by kernel_rfl) rfl (by kernel_rfl) (fun _ _ _ h => h) (Or.inl ⟨by rfl, ?_⟩) (by assumption) ?_
                    rotate_left 1
                    · intro w hSw; (try dsimp only at hSw); go_simp; (with_reducible rfl)
                    (try simp only [Act.put, List.getElem_toArray, List.getElem_cons_zero, List.getElem_cons_succ, List.setIfInBounds_toArray, List.set_cons_zero, List.set_cons_succ])
                    refine wpAnyH_take1 (i := 8) (oi := _) (v := ?_) (by kernel_rfl) rfl (by kernel_rfl) (fun _ _ _ h => h) (Or.inl ⟨by rfl, ?_⟩) (by assumption) ?_
                    rotate_left 1
                    · intro w hSw; (try dsimp only at hSw); go_simp; (with_reducible rfl)
                    (try simp only [Act.put, List.getElem_toArray, List.getElem_cons_zero, List.getElem_cons_succ, List.setIfInBounds_toArray, List.set_cons_zero, List.set_cons_succ])
                    refine wpAnyH_take1 (i := 9) (oi := _) (v := ?_) (by kernel_rfl) rfl (by kernel_rfl) (fun _ _ _ h => h) (Or.inl ⟨by rfl, ?_⟩) (by assumption) ?_
                    rotate_left 1
                    · intro w hSw; (try dsimp only at hSw); go_simp; (with_reducible rfl)
                    (try simp only [Act.put, List.getElem_toArray, List.getElem_cons_zero, List.getElem_cons_succ, List.setIfInBounds_toArray, List.set_cons_zero, List.set_cons_succ])
                    refine wpAnyH_one (i := 10) (by kernel_rfl) rfl (by rfl) fun K hK => ?_
                    go_simp
                    refine (has14 Hhas.out (SA.out.at Seq.way) (KH1.out.at Seq.way)).mono ?_
                    rintro e y401 ⟨rfl, hy401⟩
                    have HY401 := below_step hy401 (Seq.way : Below wi.heap.size wi _)
                    have zy401 := HY401.size
                    (try dsimp only)
                    clear hHeld
                    refine hK.out _ _ (Hkeep HY401).out fun hHeld => ?_
                    clear hK K
                    (try simp only [Act.put, List.getElem_toArray, List.getElem_cons_zero, List.getElem_cons_succ, List.setIfInBounds_toArray, List.set_cons_zero, List.set_cons_succ])
                    refine wpAnyH_take1 (i := 11) (oi := _) (v := ?_) (by kernel_rfl) rfl (by kernel_rfl) (fun _ _ _ h => h) (Or.inl ⟨by rfl, ?_⟩) (by assumption) ?_
                    rotate_left 1
                    · intro w hSw; (try dsimp only at hSw); go_simp; (with_reducible rfl)
                    (try simp only [Act.put, List.getElem_toArray, List.getElem_cons_zero, List.getElem_cons_succ, List.setIfInBounds_toArray, List.set_cons_zero, List.set_cons_succ])
                    refine wpAnyH_done (by kernel_rfl) ?_ _
                    refine NoPanic.normal ?_
                    clear Hkeep k1 klt x1 s1 xl slt
                    have Z7 := Lib.hid (show Below W6.heap.size W6 y401 from below_step HY401 hbq.out)
                    clear hy401 HY401 zy401
                    go_wp2_with fail
                    go_roundw
                    case rel => exact ⟨q + 1, hql, by go_num, Z7⟩
                    case measure => simp [intOf]; omega
                  · obtain rfl : q = x.ans.length := by omega
                    have hqI : ¬ (x.ans.length : Int) < (x.ans.length : Int) := by omega
                    have Z8 := Lib.hid (below_step (below_step hbq.out Z6.out) B0.out)
                    clear hql hbq Z6 B0
                    go_wp2_with fail
                    go_roundw
                    case rel => exact ⟨k + 1, hlt, by go_num, Z8⟩
                    case measure => simp [intOf]; omega
          · obtain ⟨j, hj⟩ : ∃ j, j + 1 = k := ⟨k - 1, by omega⟩
            obtain ⟨x2, hx2⟩ : ∃ x2, T[j]? = some x2 := ⟨_, List.getElem?_eq_getElem (by rw [HO.out.lenT]; omega)⟩
            have Hlow := Lib.hid (HO.out.rise hj hx2 Hy.out)
            have Hxr := Lib.hid (HO.out.right hx2)
            obtain ⟨vb, vo, vh, vc, vl, vd, va2, vcap, ve, ve2, vlt, v0, v1, vH, vA⟩ := tabK2 T_0.out hx2 rfl rfl rfl
            rw [HO.out.lenT] at ve
            simp only [Value.slice.injEq, true_and] at ve
            obtain ⟨rfl, rfl⟩ := ve
            simp only [Option.some.injEq, Addr.mk.injEq, and_true] at ve2
            obtain ⟨rfl, rfl⟩ := ve2
            have VH := Lib.hid vH
            have hw1 : IntKind.i64.wrap ((k : Int) - 1) = (j : Int) := by rw [IntKind.wrap_i64]; omega
            have hjI : (j : Int) < (s.length : Int) := by omega
            have hj0 : (0 : Int) ≤ (j : Int) := by omega
            have hjt : ((j : Int)).toNat = j := Int.toNat_natCast j
            have hkz : decide ((0 : Int) < (k : Int)) = true := decide_eq_true (by omega)
            have hkz2 : decide (0 < k) = true := decide_eq_true (by omega)
            obtain ⟨z, hz⟩ : ∃ z, cmpT x2.call y.call = z := ⟨_, rfl⟩
            have Hz := Lib.hid hz
            have hzn : z < 0 := by rw [← hz]; exact Hlow.out
            have hzd : decide (0 ≤ z) = false := decide_eq_false (by omega)
            clear hk1 vH vA v1 vlt hx2 hz hj Hlow
            go_upto_region 10 with fail
            have Hkeep := fun {Wk : World} (hW : Below wo.heap.size wo Wk) => Lib.hid (show Wk.cell? ⟨pb, po + k, none⟩ = some (.int .i64 (p : Int)) ∧ Wk.cell? ⟨tb, tq + j * 2, none⟩ = some (.slice vh x2.call.length vc) ∧ Wk.cell? ⟨tb, tq + k * 2, none⟩ = some (.slice tkh y.call.length tkc) from ⟨(hW.cell (p := ⟨pb, po + k, none⟩) plt).trans p0, (hW.cell (p := ⟨tb, tq + j * 2, none⟩) tlt).trans v0, (hW.cell (p := ⟨tb, tq + k * 2, none⟩) tlt).trans tk0⟩)
            (try simp only [List.append_eq, List.cons_append, List.nil_append])
            refine wp_region_noPanic ?_
            refine wp_region_held_drew (S := fun w' => w'.cell? ⟨pb, po + k, none⟩ = some (.int .i64 (p : Int)) ∧ w'.cell? ⟨tb, tq + j * 2, none⟩ = some (.slice vh x2.call.length vc) ∧ w'.cell? ⟨tb, tq + k * 2, none⟩ = some (.slice tkh y.call.length tkc)) (by kernel_rfl) ?_ (fun hHeld => ?_)
            · exact (Hkeep (Below.drew (Below.refl _ _))).out
            refine wpAnyH_take1 (i := 0) (oi := _) (v := ?_) (by kernel_rfl) rfl (by kernel_rfl) (fun _ _ _ h => h) (Or.inl ⟨by rfl, ?_⟩) (by assumption) ?_
            rotate_left 1
            · intro w hSw; (try dsimp only at hSw); go_simp; (with_reducible rfl)
            (try simp only [Act.put, List.getElem_toArray, List.getElem_cons_zero, List.setIfInBounds_toArray, List.set_cons_zero, List.set_cons_succ])
            refine wpAnyH_take1 (i := 1) (oi := _) (v := ?_) (by kernel_rfl) rfl (by kernel_rfl) (fun _ _ _ h => h) (Or.inl ⟨by rfl, ?_⟩) (by assumption) ?_
            rotate_left 1
            · intro w hSw; (try dsimp only at hSw); go_simp; (with_reducible rfl)
            (try simp only [Act.put, List.getElem_toArray, List.getElem_cons_zero, List.getElem_cons_succ, List.setIfInBounds_toArray, List.set_cons_zero, List.set_cons_succ])
            refine wpAnyH_take1 (i := 2) (oi := _) (v := ?_) (by kernel_rfl) rfl (by kernel_rfl) (fun _ _ _ h => h) (Or.inl ⟨by rfl, ?_⟩) (by assumption) ?_
            rotate_left 1
            · intro w hSw; (try dsimp only at hSw); go_simp; (with_reducible rfl)
            (try simp only [Act.put, List.getElem_toArray, List.getElem_cons_zero, List.getElem_cons_succ, List.setIfInBounds_toArray, List.set_cons_zero, List.set_cons_succ])
            refine wpAnyH_take1 (i := 3) (oi := _) (v := ?_) (by kernel_rfl) rfl (by kernel_rfl) (fun _ _ _ h => h) (Or.inl ⟨by rfl, ?_⟩) (by assumption) ?_
            rotate_left 1
            · intro w hSw; (try dsimp only at hSw); go_simp; (with_reducible rfl)
            (try simp only [Act.put, List.getElem_toArray, List.getElem_cons_zero, List.getElem_cons_succ, List.setIfInBounds_toArray, List.set_cons_zero, List.set_cons_succ])
            refine wpAnyH_take1 (i := 4) (oi := _) (v := ?_) (by kernel_rfl) rfl (by kernel_rfl) (fun _ _ _ h => h) (Or.inl ⟨by rfl, ?_⟩) (by assumption) ?_
            rotate_left 1
            · intro w hSw; (try dsimp only at hSw); go_simp; (with_reducible rfl)
            (try simp only [Act.put, List.getElem_toArray, List.getElem_cons_zero, List.getElem_cons_succ, List.setIfInBounds_toArray, List.set_cons_zero, List.set_cons_succ])
            refine wpAnyH_take1 (i := 5) (oi := _) (v := ?_) (by kernel_rfl) rfl (by kernel_rfl) (fun _ _ _ h => h) (Or.inl ⟨by rfl, ?_⟩) (by assumption) ?_
            rotate_left 1
            · intro w hSw; (try dsimp only at hSw); go_simp; (with_reducible rfl)
            (try simp only [Act.put, List.getElem_toArray, List.getElem_cons_zero, List.getElem_cons_succ, List.setIfInBounds_toArray, List.set_cons_zero, List.set_cons_succ])
            refine wpAnyH_take1 (i := 6) (oi := _) (v := ?_) (by kernel_rfl) rfl (by kernel_rfl) (fun _ _ _ h => h) (Or.inl ⟨by rfl, ?_⟩) (by assumption) ?_
            rotate_left 1
            · intro w hSw; (try dsimp only at hSw); go_simp; (with_reducible rfl)
            (try simp only [Act.put, List.getElem_toArray, List.getElem_cons_zero, List.getElem_cons_succ, List.setIfInBounds_toArray, List.set_cons_zero, List.set_cons_succ])
            refine wpAnyH_take1 (i := 7) (oi := _) (v := ?_) (by kernel_rfl) rfl (by kernel_rfl) (fun _ _ _ h => h) (Or.inl ⟨by rfl, ?_⟩) (by assumption) ?_
            rotate_left 1
            · intro w hSw; (try dsimp only at hSw); go_simp; (with_reducible rfl)
            (try simp only [Act.put, List.getElem_toArray, List.getElem_cons_zero, List.getElem_cons_succ, List.setIfInBounds_toArray, List.set_cons_zero, List.set_cons_succ])
            refine wpAnyH_take1 (i := 8) (oi := _) (v := ?_) (by kernel_rfl) rfl (by kernel_rfl) (fun _ _ _ h => h) (Or.inl ⟨by rfl, ?_⟩) (by assumption) ?_
            rotate_left 1
            · intro w hSw; (try dsimp only at hSw); go_simp; (with_reducible rfl)
            (try simp only [Act.put, List.getElem_toArray, List.getElem_cons_zero, List.getElem_cons_succ, List.setIfInBounds_toArray, List.set_cons_zero, List.set_cons_succ])
            refine wpAnyH_take1 (i := 9) (oi := _) (v := ?_) (by kernel_rfl) rfl (by kernel_rfl) (fun _ _ _ h => h) (Or.inl ⟨by rfl, ?_⟩) (by assumption) ?_
            rotate_left 1
            · intro w hSw; (try dsimp only at hSw); go_simp; (with_reducible rfl)
            (try simp only [Act.put, List.getElem_toArray, List.getElem_cons_zero, List.getElem_cons_succ, List.setIfInBounds_toArray, List.set_cons_zero, List.set_cons_succ])
            refine wpAnyH_take1 (i := 10) (oi := _) (v := ?_) (by kernel_rfl) rfl (by kernel_rfl) (fun _ _ _ h => h) (Or.inl ⟨by rfl, ?_⟩) (by assumption) ?_
            rotate_left 1
            · intro w hSw; (try dsimp only at hSw); go_simp; (with_reducible rfl)
            (try simp only [Act.put, List.getElem_toArray, List.getElem_cons_zero, List.getElem_cons_succ, List.setIfInBounds_toArray, List.set_cons_zero, List.set_cons_succ])
            refine wpAnyH_take1 (i := 11) (oi := _) (v := ?_) (by kernel_rfl) rfl (by kernel_rfl) (fun _ _ _ h => h) (Or.inl ⟨by rfl, ?_⟩) (by assumption) ?_
            rotate_left 1
            · intro w hSw; (try dsimp only at hSw); go_simp; (with_reducible rfl)
            (try simp only [Act.put, List.getElem_toArray, List.getElem_cons_zero, List.getElem_cons_succ, List.setIfInBounds_toArray, List.set_cons_zero, List.set_cons_succ])
            refine wpAnyH_take1 (i := 12) (oi := _) (v := ?_) (by kernel_rfl) rfl (by kernel_rfl) (fun _ _ _ h => h) (Or.inl ⟨by rfl, ?_⟩) (by assumption) ?_
            rotate_left 1
            · intro w hSw; (try dsimp only at hSw); go_simp; (with_reducible rfl)
            (try simp only [Act.put, List.getElem_toArray, List.getElem_cons_zero, List.getElem_cons_succ, List.setIfInBounds_toArray, List.set_cons_zero, List.set_cons_succ])
            refine wpAnyH_take1 (i := 13) (oi := _) (v := ?_) (by kernel_rfl) rfl (by kernel_rfl) (fun _ _ _ h => h) (Or.inl ⟨by rfl, ?_⟩) (by assumption) ?_
            rotate_left 1
            · intro w hSw; (try dsimp only at hSw); go_simp; (with_reducible rfl)
            (try simp only [Act.put, List.getElem_toArray, List.getElem_cons_zero, List.getElem_cons_succ, List.setIfInBounds_toArray, List.set_cons_zero, List.set_cons_succ])
            refine wpAnyH_take1 (i := 14) (oi := _) (v := ?_) (by kernel_rfl) rfl (by kernel_rfl) (fun _ _ _ h => h) (Or.inl ⟨by rfl, ?_⟩) (by assumption) ?_
            rotate_left 1
            · intro w hSw; (try dsimp only at hSw); go_simp; (with_reducible rfl)
            (try simp only [Act.put, List.getElem_toArray, List.getElem_cons_zero, List.getElem_cons_succ, List.setIfInBounds_toArray, List.set_cons_zero, List.set_cons_succ])
            refine wpAnyH_take1 (i := 15) (oi := _) (v := ?_) (by kernel_rfl) rfl (by kernel_rfl) (fun _ _ _ h => h) (Or.inl ⟨by rfl, ?_⟩) (by assumption) ?_
            rotate_left 1
            · intro w hSw; (try dsimp only at hSw); go_simp; (with_reducible rfl)
            (try simp only [Act.put, List.getElem_toArray, List.getElem_cons_zero, List.getElem_cons_succ, List.setIfInBounds_toArray, List.set_cons_zero, List.set_cons_succ])
            refine wpAnyH_take1 (i := 16) (oi := _) (v := ?_) (by kernel_rfl) rfl (by kernel_rfl) (fun _ _ _ h => h) (Or.inl ⟨by rfl, ?_⟩) (by assumption) ?_
            rotate_left 1
            · intro w hSw; (try dsimp only at hSw); go_simp; (with_reducible rfl)
            (try simp only [Act.put, List.getElem_toArray, List.getElem_cons_zero, List.getElem_cons_succ, List.setIfInBounds_toArray, List.set_cons_zero, List.set_cons_succ])
            refine wpAnyH_take1 (i := 17) (oi := _) (v := ?_) (by kernel_rfl) rfl (by kernel_rfl) (fun _ _ _ h => h) (Or.inl ⟨by rfl, ?_⟩) (by assumption) ?_
            rotate_left 1
            · intro w hSw; (try dsimp only at hSw); go_simp; (with_reducible rfl)
            (try simp only [Act.put, List.getElem_toArray, List.getElem_cons_zero, List.getElem_cons_succ, List.setIfInBounds_toArray, List.set_cons_zero, List.set_cons_succ])
            refine wpAnyH_take1 (i := 18) (oi := _) (v := ?_) (by kernel_rfl) rfl (by kernel_rfl) (fun _ _ _ h => h) (Or.inl ⟨by rfl, ?_⟩) (by assumption) ?_
            rotate_left 1
            · intro w hSw; (try dsimp only at hSw); go_simp; (with_reducible rfl)
            (try simp only [Act.put, List.getElem_toArray, List.getElem_cons_zero, List.getElem_cons_succ, List.setIfInBounds_toArray, List.set_cons_zero, List.set_cons_succ])
            refine wpAnyH_take1 (i := 19) (oi := _) (v := ?_) (by kernel_rfl) rfl (by kernel_rfl) (fun _ _ _ h => h) (Or.inl ⟨by rfl, ?_⟩) (by assumption) ?_
            rotate_left 1
            · intro w hSw; (try dsimp only at hSw); go_simp; (with_reducible rfl)
            (try simp only [Act.put, List.getElem_toArray, List.getElem_cons_zero, List.getElem_cons_succ, List.setIfInBounds_toArray, List.set_cons_zero, List.set_cons_succ])
            refine wpAnyH_take1 (i := 20) (oi := _) (v := ?_) (by kernel_rfl) rfl (by kernel_rfl) (fun _ _ _ h => h) (Or.inl ⟨by rfl, ?_⟩) (by assumption) ?_
            rotate_left 1
            · intro w hSw; (try dsimp only at hSw); go_simp; (with_reducible rfl)
            (try simp only [Act.put, List.getElem_toArray, List.getElem_cons_zero, List.getElem_cons_succ, List.setIfInBounds_toArray, List.set_cons_zero, List.set_cons_succ])
            refine wpAnyH_take1 (i := 21) (oi := _) (v := ?_) (by kernel_rfl) rfl (by kernel_rfl) (fun _ _ _ h => h) (Or.inl ⟨by rfl, ?_⟩) (by assumption) ?_
            rotate_left 1
            · intro w hSw; (try dsimp only at hSw); go_simp; (with_reducible rfl)
            (try simp only [Act.put, List.getElem_toArray, List.getElem_cons_zero, List.getElem_cons_succ, List.setIfInBounds_toArray, List.set_cons_zero, List.set_cons_succ])
            refine wpAnyH_take1 (i := 22) (oi := _) (v := ?_) (by kernel_rfl) rfl (by kernel_rfl) (fun _ _ _ h => h) (Or.inl ⟨by rfl, ?_⟩) (by assumption) ?_
            rotate_left 1
            · intro w hSw; (try dsimp only at hSw); go_simp; (with_reducible rfl)
            (try simp only [Act.put, List.getElem_toArray, List.getElem_cons_zero, List.getElem_cons_succ, List.setIfInBounds_toArray, List.set_cons_zero, List.set_cons_succ])
            refine wpAnyH_take1 (i := 23) (oi := _) (v := ?_) (by kernel_rfl) rfl (by kernel_rfl) (fun _ _ _ h => h) (Or.inl ⟨by rfl, ?_⟩) (by assumption) ?_
            rotate_left 1
            · intro w hSw; (try dsimp only at hSw); go_simp; (with_reducible rfl)
            (try simp only [Act.put, List.getElem_toArray, List.getElem_cons_zero, List.getElem_cons_succ, List.setIfInBounds_toArray, List.set_cons_zero, List.set_cons_succ])
            refine wpAnyH_take1 (i := 24) (oi := _) (v := ?_) (by kernel_rfl) rfl (by kernel_rfl) (fun _ _ _ h => h) (Or.inl ⟨by rfl, ?_⟩) (by assumption) ?_
            rotate_left 1
            · intro w hSw; (try dsimp only at hSw); go_simp; (with_reducible rfl)
            (try simp only [Act.put, List.getElem_toArray, List.getElem_cons_zero, List.getElem_cons_succ, List.setIfInBounds_toArray, List.set_cons_zero, List.set_cons_succ])
            refine wpAnyH_take1 (i := 25) (oi := _) (v := ?_) (by kernel_rfl) rfl (by kernel_rfl) (fun _ _ _ h => h) (Or.inl ⟨by rfl, ?_⟩) (by assumption) ?_
            rotate_left 1
            · intro w hSw; (try dsimp only at hSw); go_simp; (with_reducible rfl)
            (try simp only [Act.put, List.getElem_toArray, List.getElem_cons_zero, List.getElem_cons_succ, List.setIfInBounds_toArray, List.set_cons_zero, List.set_cons_succ])
            refine wpAnyH_take1 (i := 26) (oi := _) (v := ?_) (by kernel_rfl) rfl (by kernel_rfl) (fun _ _ _ h => h) (Or.inl ⟨by rfl, ?_⟩) (by assumption) ?_
            rotate_left 1
            · intro w hSw; (try dsimp only at hSw); go_simp; (with_reducible rfl)
            (try simp only [Act.put, List.getElem_toArray, List.getElem_cons_zero, List.getElem_cons_succ, List.setIfInBounds_toArray, List.set_cons_zero, List.set_cons_succ])
            refine wpAnyH_take1 (i := 27) (oi := _) (v := ?_) (by kernel_rfl) rfl (by kernel_rfl) (fun _ _ _ h => h) (Or.inl ⟨by rfl, ?_⟩) (by assumption) ?_
            rotate_left 1
            · intro w hSw; (try dsimp only at hSw); go_simp; (with_reducible rfl)
            (try simp only [Act.put, List.getElem_toArray, List.getElem_cons_zero, List.getElem_cons_succ, List.setIfInBounds_toArray, List.set_cons_zero, List.set_cons_succ])
            refine wpAnyH_take1 (i := 28) (oi := _) (v := ?_) (by kernel_rfl) rfl (by kernel_rfl) (fun _ _ _ h => h) (Or.inl ⟨by rfl, ?_⟩) (by assumption) ?_
            rotate_left 1
            · intro w hSw; (try dsimp only at hSw); go_simp; (with_reducible rfl)
            (try simp only [Act.put, List.getElem_toArray, List.getElem_cons_zero, List.getElem_cons_succ, List.setIfInBounds_toArray, List.set_cons_zero, List.set_cons_succ])
            refine wpAnyH_one (i := 29) (by kernel_rfl) rfl (by rfl) fun K hK => ?_
            go_simp
            refine (cmpN14 Hz.out Hxr.out.1 hyr.out.1 (VH.out.at Seq.way) (KH.out.at Seq.way)).mono ?_
            rintro e y101 ⟨rfl, hy101⟩
            have HY101 := below_step hy101 (Seq.way : Below wo.heap.size wo _)
            have zy101 := HY101.size
            (try dsimp only)
            clear hHeld
            refine hK.out _ _ (Hkeep HY101).out fun hHeld => ?_
            clear hK K
            (try simp only [Act.put, List.getElem_toArray, List.getElem_cons_zero, List.getElem_cons_succ, List.setIfInBounds_toArray, List.set_cons_zero, List.set_cons_succ])
            refine wpAnyH_take1 (i := 30) (oi := _) (v := ?_) (by kernel_rfl) rfl (by kernel_rfl) (fun _ _ _ h => h) (Or.inl ⟨by rfl, ?_⟩) (by assumption) ?_
            rotate_left 1
            · intro w hSw; (try dsimp only at hSw); go_simp; (with_reducible rfl)
            (try simp only [Act.put, List.getElem_toArray, List.getElem_cons_zero, List.getElem_cons_succ, List.setIfInBounds_toArray, List.set_cons_zero, List.set_cons_succ])
            refine wpAnyH_take1 (i := 31) (oi := _) (v := ?_) (by kernel_rfl) rfl (by kernel_rfl) (fun _ _ _ h => h) (Or.inl ⟨by rfl, ?_⟩) (by assumption) ?_
            rotate_left 1
            · intro w hSw; (try dsimp only at hSw); go_simp; (with_reducible rfl)
            (try simp only [Act.put, List.getElem_toArray, List.getElem_cons_zero, List.getElem_cons_succ, List.setIfInBounds_toArray, List.set_cons_zero, List.set_cons_succ])
            refine wpAnyH_take1 (i := 32) (oi := _) (v := ?_) (by kernel_rfl) rfl (by kernel_rfl) (fun _ _ _ h => h) (Or.inl ⟨by rfl, ?_⟩) (by assumption) ?_
            rotate_left 1
            · intro w hSw; (try dsimp only at hSw); go_simp; (with_reducible rfl)
            (try simp only [Act.put, List.getElem_toArray, List.getElem_cons_zero, List.getElem_cons_succ, List.setIfInBounds_toArray, List.set_cons_zero, List.set_cons_succ])
            refine wpAnyH_done (by kernel_rfl) ?_ _
            refine NoPanic.normal ?_
            clear Hkeep hkz hkz2 hjI hj0 hjt hzn hzd hw1 v0 hy101 zy101
            obtain ⟨W2, hW2⟩ : ∃ W2, W2 = y101 := ⟨_, rfl⟩
            have Z2 := Lib.hid (show Below wo.heap.size wo W2 by rw [hW2]; exact HY101)
            rw [← hW2]
            clear hW2
            clear HY101
            have p0 := (Z2.out.cell (p := ⟨pb, po + k, none⟩) plt).trans p0
            have u0 := (Z2.out.cell (p := ⟨tb, tq + p * 2, none⟩) tlt).trans u0
            have u1 := (Z2.out.cell (p := ⟨tb, tq + p * 2 + 1, none⟩) tlt).trans u1
            have k1 := (Z2.out.cell (p := ⟨tb, tq + k * 2 + 1, none⟩) tlt).trans tk1
            have s0 := (Z2.out.cell (p := ⟨sb, so + k * 2, none⟩) slt).trans s0
            have s1 := (Z2.out.cell (p := ⟨sb, so + k * 2 + 1, none⟩) slt).trans s1
            have plt := Nat.lt_of_lt_of_le plt Z2.out.size
            have tlt := Nat.lt_of_lt_of_le tlt Z2.out.size
            have slt := Nat.lt_of_lt_of_le slt Z2.out.size
            have KA := Lib.hid (KA.out.at Z2.out)
            have SH := Lib.hid (SH.out.at Z2.out)
            have SA := Lib.hid (SA.out.at Z2.out)
            have UH := Lib.hid (UH.out.at Z2.out)
            have UA := Lib.hid (UA.out.at Z2.out)
            clear KH tk0 tk1
            go_upto_region 12 with fail
            have Hkeep := fun {Wk : World} (hW : Below W2.heap.size W2 Wk) => Lib.hid (show Wk.cell? ⟨pb, po + k, none⟩ = some (.int .i64 (p : Int)) ∧ Wk.cell? ⟨tb, tq + p * 2, none⟩ = some (.slice uh x.call.length uc) ∧ Wk.cell? ⟨tb, tq + p * 2 + 1, none⟩ = some (.slice ul x.ans.length ud) ∧ Wk.cell? ⟨tb, tq + k * 2 + 1, none⟩ = some (.slice tkl y.ans.length tkd) from ⟨(hW.cell (p := ⟨pb, po + k, none⟩) plt).trans p0, (hW.cell (p := ⟨tb, tq + p * 2, none⟩) tlt).trans u0, (hW.cell (p := ⟨tb, tq + p * 2 + 1, none⟩) tlt).trans u1, (hW.cell (p := ⟨tb, tq + k * 2 + 1, none⟩) tlt).trans k1⟩)
            (try simp only [List.append_eq, List.cons_append, List.nil_append])
            refine wp_region_noPanic ?_
            refine wp_region_held_drew (S := fun w' => w'.cell? ⟨pb, po + k, none⟩ = some (.int .i64 (p : Int)) ∧ w'.cell? ⟨tb, tq + p * 2, none⟩ = some (.slice uh x.call.length uc) ∧ w'.cell? ⟨tb, tq + p * 2 + 1, none⟩ = some (.slice ul x.ans.length ud) ∧ w'.cell? ⟨tb, tq + k * 2 + 1, none⟩ = some (.slice tkl y.ans.length tkd)) (by kernel_rfl) ?_ (fun hHeld => ?_)
            · exact (Hkeep (Below.drew (Below.refl _ _))).out
            refine wpAnyH_take1 (i := 0) (oi := _) (v := ?_) (by kernel_rfl) rfl (by kernel_rfl) (fun _ _ _ h => h) (Or.inl ⟨by rfl, ?_⟩) (by assumption) ?_
            rotate_left 1
            · intro w hSw; (try dsimp only at hSw); go_simp; (with_reducible rfl)
            (try simp only [Act.put, List.getElem_toArray, List.getElem_cons_zero, List.setIfInBounds_toArray, List.set_cons_zero, List.set_cons_succ])
            refine wpAnyH_take1 (i := 1) (oi := _) (v := ?_) (by kernel_rfl) rfl (by kernel_rfl) (fun _ _ _ h => h) (Or.inl ⟨by rfl, ?_⟩) (by assumption) ?_
            rotate_left 1
            · intro w hSw; (try dsimp only at hSw); go_simp; (with_reducible rfl)
            (try simp only [Act.put, List.getElem_toArray, List.getElem_cons_zero, List.getElem_cons_succ, List.setIfInBounds_toArray, List.set_cons_zero, List.set_cons_succ])
            refine wpAnyH_take1 (i := 2) (oi := _) (v := ?_) (by kernel_rfl) rfl (by kernel_rfl) (fun _ _ _ h => h) (Or.inl ⟨by rfl, ?_⟩) (by assumption) ?_
            rotate_left 1
            · intro w hSw; (try dsimp only at hSw); go_simp; (with_reducible rfl)
            (try simp only [Act.put, List.getElem_toArray, List.getElem_cons_zero, List.getElem_cons_succ, List.setIfInBounds_toArray, List.set_cons_zero, List.set_cons_succ])
            refine wpAnyH_take1 (i := 3) (oi := _) (v := ?_) (by kernel_rfl) rfl (by kernel_rfl) (fun _ _ _ h => h) (Or.inl ⟨by rfl, ?_⟩) (by assumption) ?_
            rotate_left 1
            · intro w hSw; (try dsimp only at hSw); go_simp; (with_reducible rfl)
            (try simp only [Act.put, List.getElem_toArray, List.getElem_cons_zero, List.getElem_cons_succ, List.setIfInBounds_toArray, List.set_cons_zero, List.set_cons_succ])
            refine wpAnyH_take1 (i := 4) (oi := _) (v := ?_) (by kernel_rfl) rfl (by kernel_rfl) (fun _ _ _ h => h) (Or.inl ⟨by rfl, ?_⟩) (by assumption) ?_
            rotate_left 1
            · intro w hSw; (try dsimp only at hSw); go_simp; (with_reducible rfl)
            (try simp only [Act.put, List.getElem_toArray, List.getElem_cons_zero, List.getElem_cons_succ, List.setIfInBounds_toArray, List.set_cons_zero, List.set_cons_succ])
            refine wpAnyH_take1 (i := 5) (oi := _) (v := ?_) (by kernel_rfl) rfl (by kernel_rfl) (fun _ _ _ h => h) (Or.inl ⟨by rfl, ?_⟩) (by assumption) ?_
            rotate_left 1
            · intro w hSw; (try dsimp only at hSw); go_simp; (with_reducible rfl)
            (try simp only [Act.put, List.getElem_toArray, List.getElem_cons_zero, List.getElem_cons_succ, List.setIfInBounds_toArray, List.set_cons_zero, List.set_cons_succ])
            refine wpAnyH_take1 (i := 6) (oi := _) (v := ?_) (by kernel_rfl) rfl (by kernel_rfl) (fun _ _ _ h => h) (Or.inl ⟨by rfl, ?_⟩) (by assumption) ?_
            rotate_left 1
            · intro w hSw; (try dsimp only at hSw); go_simp; (with_reducible rfl)
            (try simp only [Act.put, List.getElem_toArray, List.getElem_cons_zero, List.getElem_cons_succ, List.setIfInBounds_toArray, List.set_cons_zero, List.set_cons_succ])
            refine wpAnyH_take1 (i := 7) (oi := _) (v := ?_) (by kernel_rfl) rfl (by kernel_rfl) (fun _ _ _ h => h) (Or.inl ⟨by rfl, ?_⟩) (by assumption) ?_
            rotate_left 1
            · intro w hSw; (try dsimp only at hSw); go_simp; (with_reducible rfl)
            (try simp only [Act.put, List.getElem_toArray, List.getElem_cons_zero, List.getElem_cons_succ, List.setIfInBounds_toArray, List.set_cons_zero, List.set_cons_succ])
            refine wpAnyH_take1 (i := 8) (oi := _) (v := ?_) (by kernel_rfl) rfl (by kernel_rfl) (fun _ _ _ h => h) (Or.inl ⟨by rfl, ?_⟩) (by assumption) ?_
            rotate_left 1
            · intro w hSw; (try dsimp only at hSw); go_simp; (with_reducible rfl)
            (try simp only [Act.put, List.getElem_toArray, List.getElem_cons_zero, List.getElem_cons_succ, List.setIfInBounds_toArray, List.set_cons_zero, List.set_cons_succ])
            refine wpAnyH_take1 (i := 9) (oi := _) (v := ?_) (by kernel_rfl) rfl (by kernel_rfl) (fun _ _ _ h => h) (Or.inl ⟨by rfl, ?_⟩) (by assumption) ?_
            rotate_left 1
            · intro w hSw; (try dsimp only at hSw); go_simp; (with_reducible rfl)
            (try simp only [Act.put, List.getElem_toArray, List.getElem_cons_zero, List.getElem_cons_succ, List.setIfInBounds_toArray, List.set_cons_zero, List.set_cons_succ])
            refine wpAnyH_take1 (i := 10) (oi := _) (v := ?_) (by kernel_rfl) rfl (by kernel_rfl) (fun _ _ _ h => h) (Or.inl ⟨by rfl, ?_⟩) (by assumption) ?_
            rotate_left 1
            · intro w hSw; (try dsimp only at hSw); go_simp; (with_reducible rfl)
            (try simp only [Act.put, List.getElem_toArray, List.getElem_cons_zero, List.getElem_cons_succ, List.setIfInBounds_toArray, List.set_cons_zero, List.set_cons_succ])
            refine wpAnyH_take1 (i := 11) (oi := _) (v := ?_) (by kernel_rfl) rfl (by kernel_rfl) (fun _ _ _ h => h) (Or.inl ⟨by rfl, ?_⟩) (by assumption) ?_
            rotate_left 1
            · intro w hSw; (try dsimp only at hSw); go_simp; (with_reducible rfl)
            (try simp only [Act.put, List.getElem_toArray, List.getElem_cons_zero, List.getElem_cons_succ, List.setIfInBounds_toArray, List.set_cons_zero, List.set_cons_succ])
            refine wpAnyH_one (i := 12) (by kernel_rfl) rfl (by rfl) fun K hK => ?_
            go_simp
            (try dsimp only)
            clear hHeld
            refine hK.out _ _ (Hkeep Seq.way).out fun hHeld => ?_
            clear hK K
            (try simp only [Act.put, List.getElem_toArray, List.getElem_cons_zero, List.getElem_cons_succ, List.setIfInBounds_toArray, List.set_cons_zero, List.set_cons_succ])
            refine wpAnyH_one (i := 13) (by kernel_rfl) rfl (by rfl) fun K hK => ?_
            go_simp
            (try dsimp only)
            clear hHeld
            refine hK.out _ _ (Hkeep Seq.way).out fun hHeld => ?_
            clear hK K
            (try simp only [Act.put, List.getElem_toArray, List.getElem_cons_zero, List.getElem_cons_succ, List.setIfInBounds_toArray, List.set_cons_zero, List.set_cons_succ])
            refine wpAnyH_take1 (i := 14) (oi := _) (v := ?_) (by kernel_rfl) rfl (by kernel_rfl) (fun _ _ _ h => h) (Or.inl ⟨by rfl, ?_⟩) (by assumption) ?_
            rotate_left 1
            · intro w hSw; (try dsimp only at hSw); go_simp; (with_reducible rfl)
            (try simp only [Act.put, List.getElem_toArray, List.getElem_cons_zero, List.getElem_cons_succ, List.setIfInBounds_toArray, List.set_cons_zero, List.set_cons_succ])
            refine wpAnyH_done (by kernel_rfl) ?_ _
            refine NoPanic.normal ?_
            clear Hkeep
            obtain ⟨W3, hW3⟩ : ∃ z, z = (W2.alloc (.cells #[.slice uh x.call.length uc, .slice ul x.ans.length ud] 43)).drew := ⟨_, rfl⟩
            rw [← hW3]
            have Z3 := Lib.hid (show Below wo.heap.size wo W3 by rw [hW3]; exact below_step (Seq.way : Below W2.heap.size W2 _) Z2.out)
            have Z23 := Lib.hid (show Below W2.heap.size W2 W3 by rw [hW3]; exact Seq.way)
            have XR := Lib.hid (show Row 43 W3 W2.heap.size [.slice uh x.call.length uc, .slice ul x.ans.length ud] by rw [hW3]; exact rowK (Row.new W2 [_, _] _ rfl) (Below.drew (Below.refl _ _)))
            obtain ⟨bq, hbq⟩ : ∃ b, b = W2.heap.size := ⟨_, rfl⟩
            rw [← hbq] at XR
            rw [← hbq]
            have x0 := XR.out.cell (j := 0) (by simp)
            have x1 := XR.out.cell (j := 1) (by simp)
            have xl := XR.out.lt
            simp only [List.getElem_cons_zero, List.getElem_cons_succ] at x0 x1
            have s0 := (Z23.out.cell (p := ⟨sb, so + k * 2, none⟩) slt).trans s0
            have s1 := (Z23.out.cell (p := ⟨sb, so + k * 2 + 1, none⟩) slt).trans s1
            have slt := Nat.lt_of_lt_of_le slt Z23.out.size
            have KA := Lib.hid (KA.out.at Z23.out)
            have SH := Lib.hid (SH.out.at Z23.out)
            have SA := Lib.hid (SA.out.at Z23.out)
            have UH := Lib.hid (UH.out.at Z23.out)
            have UA := Lib.hid (UA.out.at Z23.out)
            clear hW3 hbq p0 u0 u1 k1 Z23 Z2 tlt plt
            go_upto_region 13 with fail
            have Hkeep := fun {Wk : World} (hW : Below W3.heap.size W3 Wk) => Lib.hid (show Wk.cell? ⟨bq, 0, none⟩ = some (.slice uh x.call.length uc) ∧ Wk.cell? ⟨bq, 1, none⟩ = some (.slice ul x.ans.length ud) ∧ Wk.cell? ⟨sb, so + k * 2, none⟩ = some (.slice sh x.call.length sc) ∧ Wk.cell? ⟨sb, so + k * 2 + 1, none⟩ = some (.slice sl x.ans.length sd) from ⟨(hW.cell (p := ⟨bq, 0, none⟩) xl).trans x0, (hW.cell (p := ⟨bq, 1, none⟩) xl).trans x1, (hW.cell (p := ⟨sb, so + k * 2, none⟩) slt).trans s0, (hW.cell (p := ⟨sb, so + k * 2 + 1, none⟩) slt).trans s1⟩)
            (try simp only [List.append_eq, List.cons_append, List.nil_append])
            refine wp_region_noPanic ?_
            refine wp_region_held_drew (S := fun w' => w'.cell? ⟨bq, 0, none⟩ = some (.slice uh x.call.length uc) ∧ w'.cell? ⟨bq, 1, none⟩ = some (.slice ul x.ans.length ud) ∧ w'.cell? ⟨sb, so + k * 2, none⟩ = some (.slice sh x.call.length sc) ∧ w'.cell? ⟨sb, so + k * 2 + 1, none⟩ = some (.slice sl x.ans.length sd)) (by kernel_rfl) ?_ (fun hHeld => ?_)
            · exact (Hkeep (Below.drew (Below.refl _ _))).out
            refine wpAnyH_take1 (i := 0) (oi := _) (v := ?_) (by kernel_rfl) rfl (by kernel_rfl) (fun _ _ _ h => h) (Or.inl ⟨by rfl, ?_⟩) (by assumption) ?_
            rotate_left 1
            · intro w hSw; (try dsimp only at hSw); go_simp; (with_reducible rfl)
            (try simp only [Act.put, List.getElem_toArray, List.getElem_cons_zero, List.setIfInBounds_toArray, List.set_cons_zero, List.set_cons_succ])
            refine wpAnyH_take1 (i := 1) (oi := _) (v := ?_) (by kernel_rfl) rfl (by kernel_rfl) (fun _ _ _ h => h) (Or.inl ⟨by rfl, ?_⟩) (by assumption) ?_
            rotate_left 1
            · intro w hSw; (try dsimp only at hSw); go_simp; (with_reducible rfl)
            (try simp only [Act.put, List.getElem_toArray, List.getElem_cons_zero, List.getElem_cons_succ, List.setIfInBounds_toArray, List.set_cons_zero, List.set_cons_succ])
            refine wpAnyH_take1 (i := 2) (oi := _) (v := ?_) (by kernel_rfl) rfl (by kernel_rfl) (fun _ _ _ h => h) (Or.inl ⟨by rfl, ?_⟩) (by assumption) ?_
            rotate_left 1
            · intro w hSw; (try dsimp only at hSw); go_simp; (with_reducible rfl)
            (try simp only [Act.put, List.getElem_toArray, List.getElem_cons_zero, List.getElem_cons_succ, List.setIfInBounds_toArray, List.set_cons_zero, List.set_cons_succ])
            refine wpAnyH_take1 (i := 3) (oi := _) (v := ?_) (by kernel_rfl) rfl (by kernel_rfl) (fun _ _ _ h => h) (Or.inl ⟨by rfl, ?_⟩) (by assumption) ?_
            rotate_left 1
            · intro w hSw; (try dsimp only at hSw); go_simp; (with_reducible rfl)
            (try simp only [Act.put, List.getElem_toArray, List.getElem_cons_zero, List.getElem_cons_succ, List.setIfInBounds_toArray, List.set_cons_zero, List.set_cons_succ])
            refine wpAnyH_take1 (i := 4) (oi := _) (v := ?_) (by kernel_rfl) rfl (by kernel_rfl) (fun _ _ _ h => h) (Or.inl ⟨by rfl, ?_⟩) (by assumption) ?_
            rotate_left 1
            · intro w hSw; (try dsimp only at hSw); go_simp; (with_reducible rfl)
            (try simp only [Act.put, List.getElem_toArray, List.getElem_cons_zero, List.getElem_cons_succ, List.setIfInBounds_toArray, List.set_cons_zero, List.set_cons_succ])
            refine wpAnyH_take1 (i := 5) (oi := _) (v := ?_) (by kernel_rfl) rfl (by kernel_rfl) (fun _ _ _ h => h) (Or.inl ⟨by rfl, ?_⟩) (by assumption) ?_
            rotate_left 1
            · intro w hSw; (try dsimp only at hSw); go_simp; (with_reducible rfl)
            (try simp only [Act.put, List.getElem_toArray, List.getElem_cons_zero, List.getElem_cons_succ, List.setIfInBounds_toArray, List.set_cons_zero, List.set_cons_succ])
            refine wpAnyH_take1 (i := 6) (oi := _) (v := ?_) (by kernel_rfl) rfl (by kernel_rfl) (fun _ _ _ h => h) (Or.inl ⟨by rfl, ?_⟩) (by assumption) ?_
            rotate_left 1
            · intro w hSw; (try dsimp only at hSw); go_simp; (with_reducible rfl)
            (try simp only [Act.put, List.getElem_toArray, List.getElem_cons_zero, List.getElem_cons_succ, List.setIfInBounds_toArray, List.set_cons_zero, List.set_cons_succ])
            refine wpAnyH_one (i := 7) (by kernel_rfl) rfl (by rfl) fun K hK => ?_
            go_simp
            refine (same14 (UH.out.at Seq.way) (SH.out.at Seq.way)).mono ?_
            rintro e y201 ⟨rfl, hy201⟩
            have HY201 := below_step hy201 (Seq.way : Below W3.heap.size W3 _)
            have zy201 := HY201.size
            (try dsimp only)
            clear hHeld
            refine hK.out _ _ (Hkeep HY201).out fun hHeld => ?_
            clear hK K
            (try simp only [Act.put, List.getElem_toArray, List.getElem_cons_zero, List.getElem_cons_succ, List.setIfInBounds_toArray, List.set_cons_zero, List.set_cons_succ])
            refine wpAnyH_take1 (i := 8) (oi := _) (v := ?_) (by kernel_rfl) rfl (by kernel_rfl) (fun _ _ _ h => h) (Or.inl ⟨by rfl, ?_⟩) (by assumption) ?_
            rotate_left 1
            · intro w hSw; (try dsimp only at hSw); go_simp; (with_reducible rfl)
            (try simp only [Act.put, List.getElem_toArray, List.getElem_cons_zero, List.getElem_cons_succ, List.setIfInBounds_toArray, List.set_cons_zero, List.set_cons_succ])
            refine wpAnyH_take1 (i := 9) (oi := _) (v := ?_) (by kernel_rfl) rfl (by kernel_rfl) (fun _ _ _ h => h) (Or.inl ⟨by rfl, ?_⟩) (by assumption) ?_
            rotate_left 1
            · intro w hSw; (try dsimp only at hSw); go_simp; (with_reducible rfl)
            (try simp only [Act.put, List.getElem_toArray, List.getElem_cons_zero, List.getElem_cons_succ, List.setIfInBounds_toArray, List.set_cons_zero, List.set_cons_succ])
            refine wpAnyH_take1 (i := 10) (oi := _) (v := ?_) (by kernel_rfl) rfl (by kernel_rfl) (fun _ _ _ h => h) (Or.inl ⟨by rfl, ?_⟩) (by assumption) ?_
            rotate_left 1
            · intro w hSw; (try dsimp only at hSw); go_simp; (with_reducible rfl)
            (try simp only [Act.put, List.getElem_toArray, List.getElem_cons_zero, List.getElem_cons_succ, List.setIfInBounds_toArray, List.set_cons_zero, List.set_cons_succ])
            refine wpAnyH_take1 (i := 11) (oi := _) (v := ?_) (by kernel_rfl) rfl (by kernel_rfl) (fun _ _ _ h => h) (Or.inl ⟨by rfl, ?_⟩) (by assumption) ?_
            rotate_left 1
            · intro w hSw; (try dsimp only at hSw); go_simp; (with_reducible rfl)
            (try simp only [Act.put, List.getElem_toArray, List.getElem_cons_zero, List.getElem_cons_succ, List.setIfInBounds_toArray, List.set_cons_zero, List.set_cons_succ])
            refine wpAnyH_take1 (i := 12) (oi := _) (v := ?_) (by kernel_rfl) rfl (by kernel_rfl) (fun _ _ _ h => h) (Or.inl ⟨by rfl, ?_⟩) (by assumption) ?_
            rotate_left 1
            · intro w hSw; (try dsimp only at hSw); go_simp; (with_reducible rfl)
            (try simp only [Act.put, List.getElem_toArray, List.getElem_cons_zero, List.getElem_cons_succ, List.setIfInBounds_toArray, List.set_cons_zero, List.set_cons_succ])
            refine wpAnyH_take1 (i := 13) (oi := _) (v := ?_) (by kernel_rfl) rfl (by kernel_rfl) (fun _ _ _ h => h) (Or.inl ⟨by rfl, ?_⟩) (by assumption) ?_
            rotate_left 1
            · intro w hSw; (try dsimp only at hSw); go_simp; (with_reducible rfl)
            (try simp only [Act.put, List.getElem_toArray, List.getElem_cons_zero, List.getElem_cons_succ, List.setIfInBounds_toArray, List.set_cons_zero, List.set_cons_succ])
            refine wpAnyH_take1 (i := 14) (oi := _) (v := ?_) (by kernel_rfl) rfl (by kernel_rfl) (fun _ _ _ h => h) (Or.inl ⟨by rfl, ?_⟩) (by assumption) ?_
            rotate_left 1
            · intro w hSw; (try dsimp only at hSw); go_simp; (with_reducible rfl)
            (try simp only [Act.put, List.getElem_toArray, List.getElem_cons_zero, List.getElem_cons_succ, List.setIfInBounds_toArray, List.set_cons_zero, List.set_cons_succ])
            refine wpAnyH_take1 (i := 15) (oi := _) (v := ?_) (by kernel_rfl) rfl (by kernel_rfl) (fun _ _ _ h => h) (Or.inl ⟨by rfl, ?_⟩) (by assumption) ?_
            rotate_left 1
            · intro w hSw; (try dsimp only at hSw); go_simp; (with_reducible rfl)
            (try simp only [Act.put, List.getElem_toArray, List.getElem_cons_zero, List.getElem_cons_succ, List.setIfInBounds_toArray, List.set_cons_zero, List.set_cons_succ])
            refine wpAnyH_take1 (i := 16) (oi := _) (v := ?_) (by kernel_rfl) rfl (by kernel_rfl) (fun _ _ _ h => h) (Or.inl ⟨by rfl, ?_⟩) (by assumption) ?_
            rotate_left 1
            · intro w hSw; (try dsimp only at hSw); go_simp; (with_reducible rfl)
            (try simp only [Act.put, List.getElem_toArray, List.getElem_cons_zero, List.getElem_cons_succ, List.setIfInBounds_toArray, List.set_cons_zero, List.set_cons_succ])
            refine wpAnyH_take1 (i := 17) (oi := _) (v := ?_) (by kernel_rfl) rfl (by kernel_rfl) (fun _ _ _ h => h) (Or.inl ⟨by rfl, ?_⟩) (by assumption) ?_
            rotate_left 1
            · intro w hSw; (try dsimp only at hSw); go_simp; (with_reducible rfl)
            (try simp only [Act.put, List.getElem_toArray, List.getElem_cons_zero, List.getElem_cons_succ, List.setIfInBounds_toArray, List.set_cons_zero, List.set_cons_succ])
            refine wpAnyH_take1 (i := 18) (oi := _) (v := ?_) (by kernel_rfl) rfl (by kernel_rfl) (fun _ _ _ h => h) (Or.inl ⟨by rfl, ?_⟩) (by assumption) ?_
            rotate_left 1
            · intro w hSw; (try dsimp only at hSw); go_simp; (with_reducible rfl)
            (try simp only [Act.put, List.getElem_toArray, List.getElem_cons_zero, List.getElem_cons_succ, List.setIfInBounds_toArray, List.set_cons_zero, List.set_cons_succ])
            refine wpAnyH_take1 (i := 19) (oi := _) (v := ?_) (by kernel_rfl) rfl (by kernel_rfl) (fun _ _ _ h => h) (Or.inl ⟨by rfl, ?_⟩) (by assumption) ?_
            rotate_left 1
            · intro w hSw; (try dsimp only at hSw); go_simp; (with_reducible rfl)
            (try simp only [Act.put, List.getElem_toArray, List.getElem_cons_zero, List.getElem_cons_succ, List.setIfInBounds_toArray, List.set_cons_zero, List.set_cons_succ])
            refine wpAnyH_take1 (i := 20) (oi := _) (v := ?_) (by kernel_rfl) rfl (by kernel_rfl) (fun _ _ _ h => h) (Or.inl ⟨by rfl, ?_⟩) (by assumption) ?_
            rotate_left 1
            · intro w hSw; (try dsimp only at hSw); go_simp; (with_reducible rfl)
            (try simp only [Act.put, List.getElem_toArray, List.getElem_cons_zero, List.getElem_cons_succ, List.setIfInBounds_toArray, List.set_cons_zero, List.set_cons_succ])
            refine wpAnyH_done (by kernel_rfl) ?_ _
            refine NoPanic.normal ?_
            clear Hkeep x0 s0
            have x1 := (HY201.cell (p := ⟨bq, 1, none⟩) xl).trans x1
            have s1 := (HY201.cell (p := ⟨sb, so + k * 2 + 1, none⟩) slt).trans s1
            have xl := Nat.lt_of_lt_of_le xl HY201.size
            have slt := Nat.lt_of_lt_of_le slt HY201.size
            have KA := Lib.hid (KA.out.at HY201)
            have SA := Lib.hid (SA.out.at HY201)
            have UA := Lib.hid (UA.out.at HY201)
            have Z4 := Lib.hid (below_step HY201 Z3.out)
            obtain ⟨W4, hW4⟩ : ∃ z, z = y201 := ⟨_, rfl⟩
            rw [← hW4] at x1 s1 xl slt KA SA UA Z4 ⊢
            clear hy201 zy201 HY201 UH SH Z3 hW4
            clear XR
            have hyl2 : y.ans.length ≤ 140737488355328 := by omega
            go_wp2_with fail
            go_loopw [9] (fun i wr => ∃ (q : Nat), q ≤ y.ans.length ∧ i = .int .i64 q ∧ Hid (Below W4.heap.size W4 wr)) (fun i _ => y.ans.length - (intOf i).toNat)
            case atStart => exact ⟨0, Nat.zero_le _, rfl, Lib.hid (by first | exact Below.refl _ _ | exact Seq.way)⟩
            case round =>
              obtain ⟨q, hq, rfl, hbq⟩ := hrel
              obtain ⟨wi, rfl⟩ : ∃ wi, wi = wr := ⟨_, rfl⟩
              by_cases hql : q < y.ans.length
              · have hqI : (q : Int) < (y.ans.length : Int) := by omega
                have hq0 : (0 : Int) ≤ (q : Int) := by omega
                have hqt : ((q : Int)).toNat = q := Int.toNat_natCast q
                have KA2 := Lib.hid (KA.out.at hbq.out)
                by_cases hq1 : q = 0
                · have hqz : decide ((0 : Int) < (q : Int)) = false := decide_eq_false (by omega)
                  have hqz2 : decide (0 < q) = false := decide_eq_false (by omega)
                  clear hq1
                  go_upto_region 18 with fail
                  have Hkeep := fun {Wk : World} (_ : Below wi.heap.size wi Wk) => Lib.hid True.intro
                  (try simp only [List.append_eq, List.cons_append, List.nil_append])
                  refine wp_region_noPanic ?_
                  refine wp_region_held_drew (S := fun w' => True) (by kernel_rfl) ?_ (fun hHeld => ?_)
                  · exact (Hkeep (Below.drew (Below.refl _ _))).out
                  refine wpAnyH_take1 (i := 0) (oi := _) (v := ?_) (by kernel_rfl) rfl (by kernel_rfl) (fun _ _ _ h => h) (Or.inl ⟨by rfl, ?_⟩) (by assumption) ?_
                  rotate_left 1
                  · intro w hSw; (try dsimp only at hSw); go_simp; (with_reducible rfl)
                  (try simp only [Act.put, List.getElem_toArray, List.getElem_cons_zero, List.setIfInBounds_toArray, List.set_cons_zero, List.set_cons_succ])
                  refine wpAnyH_take1 (i := 1) (oi := _) (v := ?_) (by kernel_rfl) rfl (by kernel_rfl) (fun _ _ _ h => h) (Or.inl ⟨by rfl, ?_⟩) (by assumption) ?_
                  rotate_left 1
                  · intro w hSw; (try dsimp only at hSw); go_simp; (with_reducible rfl)
                  (try simp only [Act.put, List.getElem_toArray, List.getElem_cons_zero, List.getElem_cons_succ, List.setIfInBounds_toArray, List.set_cons_zero, List.set_cons_succ])
                  refine wpAnyH_take1 (i := 2) (oi := _) (v := ?_) (by kernel_rfl) rfl (by kernel_rfl) (fun _ _ _ h => h) (Or.inl ⟨by rfl, ?_⟩) (by assumption) ?_
                  rotate_left 1
                  · intro w hSw; (try dsimp only at hSw); go_simp; (with_reducible rfl)
                  (try simp only [Act.put, List.getElem_toArray, List.getElem_cons_zero, List.getElem_cons_succ, List.setIfInBounds_toArray, List.set_cons_zero, List.set_cons_succ])
                  refine wpAnyH_take1 (i := 3) (oi := _) (v := undef) (by kernel_rfl) rfl (by kernel_rfl) (fun _ _ _ h => h) (Or.inr ⟨by rfl, rfl⟩) (by assumption) ?_
                  (try simp only [Act.put, List.getElem_toArray, List.getElem_cons_zero, List.getElem_cons_succ, List.setIfInBounds_toArray, List.set_cons_zero, List.set_cons_succ])
                  refine wpAnyH_take1 (i := 4) (oi := _) (v := undef) (by kernel_rfl) rfl (by kernel_rfl) (fun _ _ _ h => h) (Or.inr ⟨by rfl, rfl⟩) (by assumption) ?_
                  (try simp only [Act.put, List.getElem_toArray, List.getElem_cons_zero, List.getElem_cons_succ, List.setIfInBounds_toArray, List.set_cons_zero, List.set_cons_succ])
                  refine wpAnyH_take1 (i := 5) (oi := _) (v := undef) (by kernel_rfl) rfl (by kernel_rfl) (fun _ _ _ h => h) (Or.inr ⟨by rfl, rfl⟩) (by assumption) ?_
                  (try simp only [Act.put, List.getElem_toArray, List.getElem_cons_zero, List.getElem_cons_succ, List.setIfInBounds_toArray, List.set_cons_zero, List.set_cons_succ])
                  refine wpAnyH_take1 (i := 6) (oi := _) (v := undef) (by kernel_rfl) rfl (by kernel_rfl) (fun _ _ _ h => h) (Or.inr ⟨by rfl, rfl⟩) (by assumption) ?_
                  (try simp only [Act.put, List.getElem_toArray, List.getElem_cons_zero, List.getElem_cons_succ, List.setIfInBounds_toArray, List.set_cons_zero, List.set_cons_succ])
                  refine wpAnyH_take1 (i := 7) (oi := _) (v := undef) (by kernel_rfl) rfl (by kernel_rfl) (fun _ _ _ h => h) (Or.inr ⟨by rfl, rfl⟩) (by assumption) ?_
                  (try simp only [Act.put, List.getElem_toArray, List.getElem_cons_zero, List.getElem_cons_succ, List.setIfInBounds_toArray, List.set_cons_zero, List.set_cons_succ])
                  refine wpAnyH_take1 (i := 8) (oi := _) (v := undef) (by kernel_rfl) rfl (by kernel_rfl) (fun _ _ _ h => h) (Or.inr ⟨by rfl, rfl⟩) (by assumption) ?_
                  (try simp only [Act.put, List.getElem_toArray, List.getElem_cons_zero, List.getElem_cons_succ, List.setIfInBounds_toArray, List.set_cons_zero, List.set_cons_succ])
                  refine wpAnyH_take1 (i := 9) (oi := _) (v := undef) (by kernel_rfl) rfl (by kernel_rfl) (fun _ _ _ h => h) (Or.inr ⟨by rfl, rfl⟩) (by assumption) ?_
                  (try simp only [Act.put, List.getElem_toArray, List.getElem_cons_zero, List.getElem_cons_succ, List.setIfInBounds_toArray, List.set_cons_zero, List.set_cons_succ])
                  refine wpAnyH_take1 (i := 10) (oi := _) (v := undef) (by kernel_rfl) rfl (by kernel_rfl) (fun _ _ _ h => h) (Or.inr ⟨by rfl, rfl⟩) (by assumption) ?_
                  (try simp only [Act.put, List.getElem_toArray, List.getElem_cons_zero, List.getElem_cons_succ, List.setIfInBounds_toArray, List.set_cons_zero, List.set_cons_succ])
                  refine wpAnyH_take1 (i := 11) (oi := _) (v := undef) (by kernel_rfl) rfl (by kernel_rfl) (fun _ _ _ h => h) (Or.inr ⟨by rfl, rfl⟩) (by assumption) ?_
                  (try simp only [Act.put, List.getElem_toArray, List.getElem_cons_zero, List.getElem_cons_succ, List.setIfInBounds_toArray, List.set_cons_zero, List.set_cons_succ])
                  refine wpAnyH_take1 (i := 12) (oi := _) (v := undef) (by kernel_rfl) rfl (by kernel_rfl) (fun _ _ _ h => h) (Or.inr ⟨by rfl, rfl⟩) (by assumption) ?_
                  (try simp only [Act.put, List.getElem_toArray, List.getElem_cons_zero, List.getElem_cons_succ, List.setIfInBounds_toArray, List.set_cons_zero, List.set_cons_succ])
                  refine wpAnyH_take1 (i := 13) (oi := _) (v := undef) (by kernel_rfl) rfl (by kernel_rfl) (fun _ _ _ h => h) (Or.inr ⟨by rfl, rfl⟩) (by assumption) ?_
                  (try simp only [Act.put, List.getElem_toArray, List.getElem_cons_zero, List.getElem_cons_succ, List.setIfInBounds_toArray, List.set_cons_zero, List.set_cons_succ])
                  refine wpAnyH_take1 (i := 14) (oi := _) (v := ?_) (by kernel_rfl) rfl (by kernel_rfl) (fun _ _ _ h => h) (Or.inl ⟨by rfl, ?_⟩) (by assumption) ?_
                  rotate_left 1
                  · intro w hSw; (try dsimp only at hSw); go_simp; (with_reducible rfl)
                  (try simp only [Act.put, List.getElem_toArray, List.getElem_cons_zero, List.getElem_cons_succ, List.setIfInBounds_toArray, List.set_cons_zero, List.set_cons_succ])
                  refine wpAnyH_done (by kernel_rfl) ?_ _
                  refine NoPanic.normal ?_
                  clear Hkeep hqz hqz2
                  have Z5 := Lib.hid (show Below W4.heap.size W4 wi.drew from hbq.out.drew)
                  go_wp2_with fail
                  go_roundw
                  case rel => exact ⟨q + 1, hql, by go_num, Z5⟩
                  case measure => simp [intOf]; omega
                · obtain ⟨r, hrq⟩ : ∃ r, r + 1 = q := ⟨q - 1, by omega⟩
                  have hql' : y.ans[q]? = some y.ans[q] := List.getElem?_eq_getElem hql
                  have hrl' : y.ans[r]? = some y.ans[r] := List.getElem?_eq_getElem (by omega)
                  have Hlow := Lib.hid (show cmpT y.ans[r] y.ans[q] < 0 from List.pairwise_iff_getElem.1 hya.out r q (by omega) hql (by omega))
                  have Hr1 := Lib.hid (hyr.out.2.2 _ (List.getElem_mem (show r < y.ans.length by omega)))
                  have Hr2 := Lib.hid (hyr.out.2.2 _ (List.getElem_mem hql))
                  obtain ⟨t1, ht1⟩ : ∃ t, t = y.ans[r] := ⟨_, rfl⟩
                  obtain ⟨t2, ht2⟩ : ∃ t, t = y.ans[q] := ⟨_, rfl⟩
                  rw [← ht1] at hrl' Hlow Hr1
                  rw [← ht2] at hql' Hlow Hr2
                  obtain ⟨kb, ko, ka1, kc1, rfl, klt, k1, kH1⟩ := termK KA2.out hrl'
                  obtain ⟨kb2, ko2, ka2, kc2, ke, -, k2, kH2⟩ := termK KA2.out hql'
                  simp only [Option.some.injEq, Addr.mk.injEq, and_true] at ke
                  obtain ⟨rfl, rfl⟩ := ke
                  have KH1 := Lib.hid kH1
                  have KH2 := Lib.hid kH2
                  have hw1 : IntKind.i64.wrap ((q : Int) - 1) = (r : Int) := by rw [IntKind.wrap_i64]; omega
                  have hrI : (r : Int) < (y.ans.length : Int) := by omega
                  have hr0 : (0 : Int) ≤ (r : Int) := by omega
                  have hrt : ((r : Int)).toNat = r := Int.toNat_natCast r
                  have hqz : decide ((0 : Int) < (q : Int)) = true := decide_eq_true (by omega)
                  have hqz2 : decide (0 < q) = true := decide_eq_true (by omega)
                  obtain ⟨z, hz⟩ : ∃ z, cmpT t1 t2 = z := ⟨_, rfl⟩
                  have Hz := Lib.hid hz
                  have hzn : z < 0 := by rw [← hz]; exact Hlow.out
                  have hzd : decide (0 ≤ z) = false := decide_eq_false (by omega)
                  clear hq1 kH1 kH2 hz hrq Hlow hrl' hql' ht1 ht2
                  go_upto_region 18 with fail
                  have Hkeep := fun {Wk : World} (hW : Below wi.heap.size wi Wk) => Lib.hid (show Wk.cell? ⟨kb, ko + r, none⟩ = some (.slice ka1 t1.length kc1) ∧ Wk.cell? ⟨kb, ko + q, none⟩ = some (.slice ka2 t2.length kc2) from ⟨(hW.cell (p := ⟨kb, ko + r, none⟩) klt).trans k1, (hW.cell (p := ⟨kb, ko + q, none⟩) klt).trans k2⟩)
                  (try simp only [List.append_eq, List.cons_append, List.nil_append])
                  refine wp_region_noPanic ?_
                  refine wp_region_held_drew (S := fun w' => w'.cell? ⟨kb, ko + r, none⟩ = some (.slice ka1 t1.length kc1) ∧ w'.cell? ⟨kb, ko + q, none⟩ = some (.slice ka2 t2.length kc2)) (by kernel_rfl) ?_ (fun hHeld => ?_)
                  · exact (Hkeep (Below.drew (Below.refl _ _))).out
                  refine wpAnyH_take1 (i := 0) (oi := _) (v := ?_) (by kernel_rfl) rfl (by kernel_rfl) (fun _ _ _ h => h) (Or.inl ⟨by rfl, ?_⟩) (by assumption) ?_
                  rotate_left 1
                  · intro w hSw; (try dsimp only at hSw); go_simp; (with_reducible rfl)
                  (try simp only [Act.put, List.getElem_toArray, List.getElem_cons_zero, List.setIfInBounds_toArray, List.set_cons_zero, List.set_cons_succ])
                  refine wpAnyH_take1 (i := 1) (oi := _) (v := ?_) (by kernel_rfl) rfl (by kernel_rfl) (fun _ _ _ h => h) (Or.inl ⟨by rfl, ?_⟩) (by assumption) ?_
                  rotate_left 1
                  · intro w hSw; (try dsimp only at hSw); go_simp; (with_reducible rfl)
                  (try simp only [Act.put, List.getElem_toArray, List.getElem_cons_zero, List.getElem_cons_succ, List.setIfInBounds_toArray, List.set_cons_zero, List.set_cons_succ])
                  refine wpAnyH_take1 (i := 2) (oi := _) (v := ?_) (by kernel_rfl) rfl (by kernel_rfl) (fun _ _ _ h => h) (Or.inl ⟨by rfl, ?_⟩) (by assumption) ?_
                  rotate_left 1
                  · intro w hSw; (try dsimp only at hSw); go_simp; (with_reducible rfl)
                  (try simp only [Act.put, List.getElem_toArray, List.getElem_cons_zero, List.getElem_cons_succ, List.setIfInBounds_toArray, List.set_cons_zero, List.set_cons_succ])
                  refine wpAnyH_take1 (i := 3) (oi := _) (v := ?_) (by kernel_rfl) rfl (by kernel_rfl) (fun _ _ _ h => h) (Or.inl ⟨by rfl, ?_⟩) (by assumption) ?_
                  rotate_left 1
                  · intro w hSw; (try dsimp only at hSw); go_simp; (with_reducible rfl)
                  (try simp only [Act.put, List.getElem_toArray, List.getElem_cons_zero, List.getElem_cons_succ, List.setIfInBounds_toArray, List.set_cons_zero, List.set_cons_succ])
                  refine wpAnyH_take1 (i := 4) (oi := _) (v := ?_) (by kernel_rfl) rfl (by kernel_rfl) (fun _ _ _ h => h) (Or.inl ⟨by rfl, ?_⟩) (by assumption) ?_
                  rotate_left 1
                  · intro w hSw; (try dsimp only at hSw); go_simp; (with_reducible rfl)
                  (try simp only [Act.put, List.getElem_toArray, List.getElem_cons_zero, List.getElem_cons_succ, List.setIfInBounds_toArray, List.set_cons_zero, List.set_cons_succ])
                  refine wpAnyH_take1 (i := 5) (oi := _) (v := ?_) (by kernel_rfl) rfl (by kernel_rfl) (fun _ _ _ h => h) (Or.inl ⟨by rfl, ?_⟩) (by assumption) ?_
                  rotate_left 1
                  · intro w hSw; (try dsimp only at hSw); go_simp; (with_reducible rfl)
                  (try simp only [Act.put, List.getElem_toArray, List.getElem_cons_zero, List.getElem_cons_succ, List.setIfInBounds_toArray, List.set_cons_zero, List.set_cons_succ])
                  refine wpAnyH_take1 (i := 6) (oi := _) (v := ?_) (by kernel_rfl) rfl (by kernel_rfl) (fun _ _ _ h => h) (Or.inl ⟨by rfl, ?_⟩) (by assumption) ?_
                  rotate_left 1
                  · intro w hSw; (try dsimp only at hSw); go_simp; (with_reducible rfl)
                  (try simp only [Act.put, List.getElem_toArray, List.getElem_cons_zero, List.getElem_cons_succ, List.setIfInBounds_toArray, List.set_cons_zero, List.set_cons_succ])
                  refine wpAnyH_take1 (i := 7) (oi := _) (v := ?_) (by kernel_rfl) rfl (by kernel_rfl) (fun _ _ _ h => h) (Or.inl ⟨by rfl, ?_⟩) (by assumption) ?_
                  rotate_left 1
                  · intro w hSw; (try dsimp only at hSw); go_simp; (with_reducible rfl)
                  (try simp only [Act.put, List.getElem_toArray, List.getElem_cons_zero, List.getElem_cons_succ, List.setIfInBounds_toArray, List.set_cons_zero, List.set_cons_succ])
                  refine wpAnyH_take1 (i := 8) (oi := _) (v := ?_) (by kernel_rfl) rfl (by kernel_rfl) (fun _ _ _ h => h) (Or.inl ⟨by rfl, ?_⟩) (by assumption) ?_
                  rotate_left 1
                  · intro w hSw; (try dsimp only at hSw); go_simp; (with_reducible rfl)
                  (try simp only [Act.put, List.getElem_toArray, List.getElem_cons_zero, List.getElem_cons_succ, List.setIfInBounds_toArray, List.set_cons_zero, List.set_cons_succ])
                  refine wpAnyH_take1 (i := 9) (oi := _) (v := ?_) (by kernel_rfl) rfl (by kernel_rfl) (fun _ _ _ h => h) (Or.inl ⟨by rfl, ?_⟩) (by assumption) ?_
                  rotate_left 1
                  · intro w hSw; (try dsimp only at hSw); go_simp; (with_reducible rfl)
                  (try simp only [Act.put, List.getElem_toArray, List.getElem_cons_zero, List.getElem_cons_succ, List.setIfInBounds_toArray, List.set_cons_zero, List.set_cons_succ])
                  refine wpAnyH_take1 (i := 10) (oi := _) (v := ?_) (by kernel_rfl) rfl (by kernel_rfl) (fun _ _ _ h => h) (Or.inl ⟨by rfl, ?_⟩) (by assumption) ?_
                  rotate_left 1
                  · intro w hSw; (try dsimp only at hSw); go_simp; (with_reducible rfl)
                  (try simp only [Act.put, List.getElem_toArray, List.getElem_cons_zero, List.getElem_cons_succ, List.setIfInBounds_toArray, List.set_cons_zero, List.set_cons_succ])
                  refine wpAnyH_take1 (i := 11) (oi := _) (v := ?_) (by kernel_rfl) rfl (by kernel_rfl) (fun _ _ _ h => h) (Or.inl ⟨by rfl, ?_⟩) (by assumption) ?_
                  rotate_left 1
                  · intro w hSw; (try dsimp only at hSw); go_simp; (with_reducible rfl)
                  (try simp only [Act.put, List.getElem_toArray, List.getElem_cons_zero, List.getElem_cons_succ, List.setIfInBounds_toArray, List.set_cons_zero, List.set_cons_succ])
                  refine wpAnyH_one (i := 12) (by kernel_rfl) rfl (by rfl) fun K hK => ?_
                  go_simp
                  refine (cmpN14 Hz.out Hr1.out Hr2.out (KH1.out.at Seq.way) (KH2.out.at Seq.way)).mono ?_
                  rintro e y301 ⟨rfl, hy301⟩
                  have HY301 := below_step hy301 (Seq.way : Below wi.heap.size wi _)
                  have zy301 := HY301.size
                  (try dsimp only)
                  clear hHeld
                  refine hK.out _ _ (Hkeep HY301).out fun hHeld => ?_
                  clear hK K
                  (try simp only [Act.put, List.getElem_toArray, List.getElem_cons_zero, List.getElem_cons_succ, List.setIfInBounds_toArray, List.set_cons_zero, List.set_cons_succ])
                  refine wpAnyH_take1 (i := 13) (oi := _) (v := ?_) (by kernel_rfl) rfl (by kernel_rfl) (fun _ _ _ h => h) (Or.inl ⟨by rfl, ?_⟩) (by assumption) ?_
                  rotate_left 1
                  · intro w hSw; (try dsimp only at hSw); go_simp; (with_reducible rfl)
                  (try simp only [Act.put, List.getElem_toArray, List.getElem_cons_zero, List.getElem_cons_succ, List.setIfInBounds_toArray, List.set_cons_zero, List.set_cons_succ])
                  refine wpAnyH_take1 (i := 14) (oi := _) (v := ?_) (by kernel_rfl) rfl (by kernel_rfl) (fun _ _ _ h => h) (Or.inl ⟨by rfl, ?_⟩) (by assumption) ?_
                  rotate_left 1
                  · intro w hSw; (try dsimp only at hSw); go_simp; (with_reducible rfl)
                  (try simp only [Act.put, List.getElem_toArray, List.getElem_cons_zero, List.getElem_cons_succ, List.setIfInBounds_toArray, List.set_cons_zero, List.set_cons_succ])
                  refine wpAnyH_done (by kernel_rfl) ?_ _
                  refine NoPanic.normal ?_
                  clear Hkeep hqz hqz2 hrI hr0 hrt hzn hzd hw1 k1 k2 klt
                  have Z5 := Lib.hid (show Below W4.heap.size W4 y301 from below_step HY301 hbq.out)
                  clear hy301 HY301 zy301
                  go_wp2_with fail
                  go_roundw
                  case rel => exact ⟨q + 1, hql, by go_num, Z5⟩
                  case measure => simp [intOf]; omega
              · obtain rfl : q = y.ans.length := by omega
                have hqI : ¬ (y.ans.length : Int) < (y.ans.length : Int) := by omega
                have x1 := (hbq.out.cell (p := ⟨bq, 1, none⟩) xl).trans x1
                have s1 := (hbq.out.cell (p := ⟨sb, so + k * 2 + 1, none⟩) slt).trans s1
                have xl := Nat.lt_of_lt_of_le xl hbq.out.size
                have slt := Nat.lt_of_lt_of_le slt hbq.out.size
                have SA := Lib.hid (SA.out.at hbq.out)
                have UA := Lib.hid (UA.out.at hbq.out)
                have Z6 := Lib.hid (below_step hbq.out Z4.out)
                obtain ⟨W6, hW6⟩ : ∃ z, z = wi := ⟨_, rfl⟩
                rw [← hW6] at x1 s1 xl slt SA UA Z6 ⊢
                clear hql hbq hW6 KA Z4
                have hxl2 : x.ans.length ≤ 140737488355328 := by omega
                go_wp2_with fail
                clear hqI
                go_loopw [10] (fun i wr => ∃ (q : Nat), q ≤ x.ans.length ∧ i = .int .i64 q ∧ Hid (Below W6.heap.size W6 wr)) (fun i _ => x.ans.length - (intOf i).toNat)
                case atStart => exact ⟨0, Nat.zero_le _, rfl, Lib.hid (by first | exact Below.refl _ _ | exact Seq.way)⟩
                case round =>
                  obtain ⟨q, hq, rfl, hbq⟩ := hrel
                  obtain ⟨wi, rfl⟩ : ∃ wi, wi = wr := ⟨_, rfl⟩
                  have x1 := (hbq.out.cell (p := ⟨bq, 1, none⟩) xl).trans x1
                  have s1 := (hbq.out.cell (p := ⟨sb, so + k * 2 + 1, none⟩) slt).trans s1
                  have xl := Nat.lt_of_lt_of_le xl hbq.out.size
                  have slt := Nat.lt_of_lt_of_le slt hbq.out.size
                  have SA := Lib.hid (SA.out.at hbq.out)
                  have UA := Lib.hid (UA.out.at hbq.out)
                  by_cases hql : q < x.ans.length
                  · have hqI : (q : Int) < (x.ans.length : Int) := by omega
                    have hq0 : (0 : Int) ≤ (q : Int) := by omega
                    have hqt : ((q : Int)).toNat = q := Int.toNat_natCast q
                    have hqm : q < m.length := by rw [Hln.out]; exact hql
                    have hql' : m[q]? = some m[q] := List.getElem?_eq_getElem hqm
                    have Hhas := Lib.hid (Hmem.out _ (List.getElem_mem hqm))
                    obtain ⟨t1, ht1⟩ : ∃ t, t = m[q] := ⟨_, rfl⟩
                    rw [← ht1] at hql' Hhas
                    obtain ⟨kb, ko, ka1, kc1, rfl, klt, k1, kH1⟩ := termK UA.out hql'
                    have KH1 := Lib.hid kH1
                    clear kH1 hql' ht1
                    go_upto_region 23 with fail
                    have Hkeep := fun {Wk : World} (hW : Below wi.heap.size wi Wk) => Lib.hid (show Wk.cell? ⟨bq, 1, none⟩ = some (.slice (some ⟨kb, ko, none⟩) x.ans.length ud) ∧ Wk.cell? ⟨sb, so + k * 2 + 1, none⟩ = some (.slice sl x.ans.length sd) ∧ Wk.cell? ⟨kb, ko + q, none⟩ = some (.slice ka1 t1.length kc1) from ⟨(hW.cell (p := ⟨bq, 1, none⟩) xl).trans x1, (hW.cell (p := ⟨sb, so + k * 2 + 1, none⟩) slt).trans s1, (hW.cell (p := ⟨kb, ko + q, none⟩) klt).trans k1⟩)
                    (try simp only [List.append_eq, List.cons_append, List.nil_append])
                    refine wp_region_noPanic ?_
                    refine wp_region_held_drew (S := fun w' => w'.cell? ⟨bq, 1, none⟩ = some (.slice (some ⟨kb, ko, none⟩) x.ans.length ud) ∧ w'.cell? ⟨sb, so + k * 2 + 1, none⟩ = some (.slice sl x.ans.length sd) ∧ w'.cell? ⟨kb, ko + q, none⟩ = some (.slice ka1 t1.length kc1)) (by kernel_rfl) ?_ (fun hHeld => ?_)
                    · exact (Hkeep (Below.drew (Below.refl _ _))).out
                    refine wpAnyH_take1 (i := 0) (oi := _) (v := ?_) (by kernel_rfl) rfl (by kernel_rfl) (fun _ _ _ h => h) (Or.inl ⟨by rfl, ?_⟩) (by assumption) ?_
                    rotate_left 1
                    · intro w hSw; (try dsimp only at hSw); go_simp; (with_reducible rfl)
                    (try simp only [Act.put, List.getElem_toArray, List.getElem_cons_zero, List.setIfInBounds_toArray, List.set_cons_zero, List.set_cons_succ])
                    refine wpAnyH_take1 (i := 1) (oi := _) (v := ?_) (by kernel_rfl) rfl (by kernel_rfl) (fun _ _ _ h => h) (Or.inl ⟨by rfl, ?_⟩) (by assumption) ?_
                    rotate_left 1
                    · intro w hSw; (try dsimp only at hSw); go_simp; (with_reducible rfl)
                    (try simp only [Act.put, List.getElem_toArray, List.getElem_cons_zero, List.getElem_cons_succ, List.setIfInBounds_toArray, List.set_cons_zero, List.set_cons_succ])
                    refine wpAnyH_take1 (i := 2) (oi := _) (v := ?_) (by kernel_rfl) rfl (by kernel_rfl) (fun _ _ _ h => h) (Or.inl ⟨by rfl, ?_⟩) (by assumption) ?_
                    rotate_left 1
                    · intro w hSw; (try dsimp only at hSw); go_simp; (with_reducible rfl)
                    (try simp only [Act.put, List.getElem_toArray, List.getElem_cons_zero, List.getElem_cons_succ, List.setIfInBounds_toArray, List.set_cons_zero, List.set_cons_succ])
                    refine wpAnyH_take1 (i := 3) (oi := _) (v := ?_) (by kernel_rfl) rfl (by kernel_rfl) (fun _ _ _ h => h) (Or.inl ⟨by rfl, ?_⟩) (by assumption) ?_
                    rotate_left 1
                    · intro w hSw; (try dsimp only at hSw); go_simp; (with_reducible rfl)
                    (try simp only [Act.put, List.getElem_toArray, List.getElem_cons_zero, List.getElem_cons_succ, List.setIfInBounds_toArray, List.set_cons_zero, List.set_cons_succ])
                    refine wpAnyH_take1 (i := 4) (oi := _) (v := ?_) (by kernel_rfl) rfl (by kernel_rfl) (fun _ _ _ h => h) (Or.inl ⟨by rfl, ?_⟩) (by assumption) ?_
                    rotate_left 1
                    · intro w hSw; (try dsimp only at hSw); go_simp; (with_reducible rfl)
                    (try simp only [Act.put, List.getElem_toArray, List.getElem_cons_zero, List.getElem_cons_succ, List.setIfInBounds_toArray, List.set_cons_zero, List.set_cons_succ])
                    refine wpAnyH_take1 (i := 5) (oi := _) (v := ?_) (by kernel_rfl) rfl (by kernel_rfl) (fun _ _ _ h => h) (Or.inl ⟨by rfl, ?_⟩) (by assumption) ?_
                    rotate_left 1
                    · intro w hSw; (try dsimp only at hSw); go_simp; (with_reducible rfl)
                    (try simp only [Act.put, List.getElem_toArray, List.getElem_cons_zero, List.getElem_cons_succ, List.setIfInBounds_toArray, List.set_cons_zero, List.set_cons_succ])
                    refine wpAnyH_take1 (i := 6) (oi := _) (v := ?_) (by kernel_rfl) rfl (by kernel_rfl) (fun _ _ _ h => h) (Or.inl ⟨by rfl, ?_⟩) (by assumption) ?_
                    rotate_left 1
                    · intro w hSw; (try dsimp only at hSw); go_simp; (with_reducible rfl)
                    (try simp only [Act.put, List.getElem_toArray, List.getElem_cons_zero, List.getElem_cons_succ, List.setIfInBounds_toArray, List.set_cons_zero, List.set_cons_succ])
                    refine wpAnyH_take1 (i := 7) (oi := _) (v := ?_) (by kernel_rfl) rfl (by kernel_rfl) (fun _ _ _ h => h) (Or.inl ⟨by rfl, ?_⟩) (by assumption) ?_
                    rotate_left 1
                    · intro w hSw; (try dsimp only at hSw); go_simp; (with_reducible rfl)
                    (try simp only [Act.put, List.getElem_toArray, List.getElem_cons_zero, List.getElem_cons_succ, List.setIfInBounds_toArray, List.set_cons_zero, List.set_cons_succ])
                    refine wpAnyH_take1 (i := 8) (oi := _) (v := ?_) (by kernel_rfl) rfl (by kernel_rfl) (fun _ _ _ h => h) (Or.inl ⟨by rfl, ?_⟩) (by assumption) ?_
                    rotate_left 1
                    · intro w hSw; (try dsimp only at hSw); go_simp; (with_reducible rfl)
                    (try simp only [Act.put, List.getElem_toArray, List.getElem_cons_zero, List.getElem_cons_succ, List.setIfInBounds_toArray, List.set_cons_zero, List.set_cons_succ])
                    refine wpAnyH_take1 (i := 9) (oi := _) (v := ?_) (by kernel_rfl) rfl (by kernel_rfl) (fun _ _ _ h => h) (Or.inl ⟨by rfl, ?_⟩) (by assumption) ?_
                    rotate_left 1
                    · intro w hSw; (try dsimp only at hSw); go_simp; (with_reducible rfl)
                    (try simp only [Act.put, List.getElem_toArray, List.getElem_cons_zero, List.getElem_cons_succ, List.setIfInBounds_toArray, List.set_cons_zero, List.set_cons_succ])
                    refine wpAnyH_one (i := 10) (by kernel_rfl) rfl (by rfl) fun K hK => ?_
                    go_simp
                    refine (has14 Hhas.out (SA.out.at Seq.way) (KH1.out.at Seq.way)).mono ?_
                    rintro e y401 ⟨rfl, hy401⟩
                    have HY401 := below_step hy401 (Seq.way : Below wi.heap.size wi _)
                    have zy401 := HY401.size
                    (try dsimp only)
                    clear hHeld
                    refine hK.out _ _ (Hkeep HY401).out fun hHeld => ?_
                    clear hK K
                    (try simp only [Act.put, List.getElem_toArray, List.getElem_cons_zero, List.getElem_cons_succ, List.setIfInBounds_toArray, List.set_cons_zero, List.set_cons_succ])
                    refine wpAnyH_take1 (i := 11) (oi := _) (v := ?_) (by kernel_rfl) rfl (by kernel_rfl) (fun _ _ _ h => h) (Or.inl ⟨by rfl, ?_⟩) (by assumption) ?_
                    rotate_left 1
                    · intro w hSw; (try dsimp only at hSw); go_simp; (with_reducible rfl)
                    (try simp only [Act.put, List.getElem_toArray, List.getElem_cons_zero, List.getElem_cons_succ, List.setIfInBounds_toArray, List.set_cons_zero, List.set_cons_succ])
                    refine wpAnyH_done (by kernel_rfl) ?_ _
                    refine NoPanic.normal ?_
                    clear Hkeep k1 klt x1 s1 xl slt
                    have Z7 := Lib.hid (show Below W6.heap.size W6 y401 from below_step HY401 hbq.out)
                    clear hy401 HY401 zy401
                    go_wp2_with fail
                    go_roundw
                    case rel => exact ⟨q + 1, hql, by go_num, Z7⟩
                    case measure => simp [intOf]; omega
                  · obtain rfl : q = x.ans.length := by omega
                    have hqI : ¬ (x.ans.length : Int) < (x.ans.length : Int) := by omega
                    have Z8 := Lib.hid (below_step (below_step hbq.out Z6.out) B0.out)
                    clear hql hbq Z6 B0
                    go_wp2_with fail
                    go_roundw
                    case rel => exact ⟨k + 1, hlt, by go_num, Z8⟩
                    case measure => simp [intOf]; omega
        · obtain rfl : k = s.length := by omega
          have hkI : ¬ (s.length : Int) < (s.length : Int) := by omega
          have BB := Lib.hid (below_step B0.out B4.out)
          clear hlt B0 hbr
          go_wp2_with fail
          refine (sort14n HO.out.again HO.out.plc HO.out.lenT (by simp) (T_0.out.at Seq.way) HO.out.good).mono ?_
          rintro e z1 ⟨ua, uc, va, vc, rfl, hy1, hs1, ht1⟩
          have D1 := Lib.hid (below_step hy1 (Seq.way : Below wo.heap.size wo _))
          have S_1 := Lib.hid (S_0.out.at D1.out)
          have T_1 := Lib.hid (T_0.out.at D1.out)
          have B1 := Lib.hid (below_step D1.out BB.out)
          clear S_0
          clear T_0
          have U_1 := Lib.hid (hs1)
          have V_1 := Lib.hid (ht1)
          clear hy1 D1 BB
          clear hs1 ht1
          go_wp2_with fail
          obtain ⟨wc, hwc⟩ : ∃ wc, wc = z1 := ⟨_, rfl⟩
          rw [← hwc] at S_1 T_1 U_1 V_1 B1 ⊢
          clear hwc hkI
          go_loopw [13] (fun i wr => ∃ (q : Nat), q ≤ s.length ∧ i = .int .i64 q ∧ Hid (Below wc.heap.size wc wr)) (fun i _ => s.length - (intOf i).toNat)
          case atStart => exact ⟨0, Nat.zero_le _, rfl, Lib.hid (by first | exact Below.refl _ _ | exact Seq.way)⟩
          case round =>
            obtain ⟨q, hq, rfl, hbq⟩ := hrel
            obtain ⟨wi, rfl⟩ : ∃ wi, wi = wr := ⟨_, rfl⟩
            by_cases hql : q < s.length
            · have hqI : (q : Int) < (s.length : Int) := by omega
              have hq0 : (0 : Int) ≤ (q : Int) := by omega
              have V2 := Lib.hid (V_1.out.at hbq.out)
              obtain ⟨vb, vo, rfl, vlt, v0⟩ := intK V2.out (show ((List.range s.length).map fun i : Nat => (i : Int))[q]? = some (q : Int) by simp [hql])
              go_wp2_with fail
              have Z5 := Lib.hid (show Below wc.heap.size wc _ from Seq.way)
              go_roundw
              case rel => exact ⟨q + 1, hql, by go_num, Lib.hid (by first | exact hbq.out | exact hbq.out.drew)⟩
              case measure => simp [intOf]; omega
            · obtain rfl : q = s.length := by omega
              have hqI : ¬ (s.length : Int) < (s.length : Int) := by omega
              have S_5 := Lib.hid (S_1.out.at hbq.out)
              have T_5 := Lib.hid (T_1.out.at hbq.out)
              have U_5 := Lib.hid (U_1.out.at hbq.out)
              have B5 := Lib.hid (below_step hbq.out B1.out)
              obtain ⟨m, hm⟩ : ∃ m, totalT s = m := ⟨_, rfl⟩
              have HM := Lib.hid hm
              have HM2 := Lib.hid (show totalT T = m from HO.out.tot.trans hm)
              clear hm hql hbq
              go_wp2_with fail
              refine (sameTs14 rfl (T_5.out.at Seq.way) (U_5.out.at Seq.way)).mono ?_
              rintro e u6 ⟨rfl, hy6⟩
              have D6 := Lib.hid (below_step hy6 (Seq.way : Below wi.heap.size wi _))
              have S_6 := Lib.hid (S_5.out.at D6.out)
              have T_6 := Lib.hid (T_5.out.at D6.out)
              have U_6 := Lib.hid (U_5.out.at D6.out)
              have B6 := Lib.hid (below_step D6.out B5.out)
              clear S_5
              clear T_5
              clear U_5
              clear hy6 D6 B5
              go_wp2_with fail
              refine (totalP14 HM2.out (T_6.out.at Seq.way) (by rw [HO.out.lenT]; omega) hTa.out).mono ?_
              rintro e u7 ⟨rfl, hy7⟩
              have D7 := Lib.hid (below_step hy7 (Seq.way : Below u6.heap.size u6 _))
              have S_7 := Lib.hid (S_6.out.at D7.out)
              have T_7 := Lib.hid (T_6.out.at D7.out)
              have U_7 := Lib.hid (U_6.out.at D7.out)
              have B7 := Lib.hid (below_step D7.out B6.out)
              clear S_6
              clear T_6
              clear U_6
              clear hy7 D7 B6
              go_wp2_with fail
              refine (totalP14 HM.out (S_7.out.at Seq.way) (by omega) hGa.out).mono ?_
              rintro e u8 ⟨rfl, hy8⟩
              have D8 := Lib.hid (below_step hy8 (Seq.way : Below u7.heap.size u7 _))
              have S_8 := Lib.hid (S_7.out.at D8.out)
              have T_8 := Lib.hid (T_7.out.at D8.out)
              have U_8 := Lib.hid (U_7.out.at D8.out)
              have B8 := Lib.hid (below_step D8.out B7.out)
              clear S_7
              clear T_7
              clear U_7
              clear hy8 D8 B7
              go_wp2_with fail
              go_ret
              exact ⟨rfl, B8.out⟩
end Go.Proofs.YtckkjjiaecnciaaGreat
