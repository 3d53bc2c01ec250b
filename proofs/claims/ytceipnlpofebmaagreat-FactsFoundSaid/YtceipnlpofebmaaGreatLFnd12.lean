/-
  Layer 12: the walk of FactsFound.
-/
import Derived.Test.YtceipnlpofebmaaGreatMtV
import Derived.Deep.CutBlock
namespace Go.Proofs.YtceipnlpofebmaaGreat
open Go Go.RowKit

theorem isV_ne {n : Int} {t : List Cell} (ht : RightT t) (hl : 0 < t.length) (h : t[0].kind ≠ 1 ∨ t[0].n ≠ n) : isV n t = false := by
  obtain ⟨c, l, rfl, -, -⟩ := ht.cons
  rw [isV_head ht]
  simp only [List.getElem_cons_zero] at h
  rcases h with h | h <;> simp [h]

set_option maxHeartbeats 16000000 in
set_option maxRecDepth 100000 in
theorem found_spec (hH : ∀ w, Calls Tryz.prog 9 #[] w (RetV (.bool true) w)) {S T U : Nat → Prop} {w : World} {v u z : Value} {l t : List (List Cell)} {c : List Cell} (hl : Seq (seqE cellE) S w v l) (hc : Seq cellE T w u c) (ht : Seq (seqE cellE) U w z t) :
    Calls Tryz.prog 5 #[v, u, z] w (RetV (.bool true) w) := by
  have Hl := Lib.hid hl
  have Hc := Lib.hid hc
  have Ht := Lib.hid ht
  obtain ⟨la, lc, rfl, -⟩ := hl
  obtain ⟨ca, cc, rfl, -⟩ := hc
  obtain ⟨ta, tc, rfl, -⟩ := ht
  have HB0 := Lib.hid (Below.refl w.heap.size w)
  go_enter Tryz.func5, Tryz.ntmps5
  go_wp2_with fail
  refine (hH _).mono ?_
  rintro e w1 ⟨rfl, hb⟩
  replace hb := below_step hb (Seq.way : Below w.heap.size w _)
  replace Hl := Lib.hid (Hl.out.at hb)
  replace Hc := Lib.hid (Hc.out.at hb)
  replace Ht := Lib.hid (Ht.out.at hb)
  have HB1 := Lib.hid (below_step hb HB0.out)
  clear hb
  go_wp2_with fail
  refine (RowR_spec (most := 60) (Hl.out.at Seq.way) (by decide)).mono ?_
  rintro e w2 ⟨v2, rfl, hb, hs⟩
  replace hs := hs.any
  obtain ⟨a2, c2, rfl⟩ := hs.shape
  replace hb := below_step hb (Seq.way : Below w1.heap.size w1 _)
  replace Hl := Lib.hid (Hl.out.at hb)
  replace Hc := Lib.hid (Hc.out.at hb)
  replace Ht := Lib.hid (Ht.out.at hb)
  have HB2 := Lib.hid (below_step hb HB1.out)
  clear hb
  have HF := Lib.hid hs
  clear hs
  obtain ⟨hF1, hF2⟩ := rowF_rowT l (most := 60) (by omega)
  obtain ⟨F, hFF⟩ : ∃ F, F = rowF l 60 := ⟨_, rfl⟩
  rw [← hFF] at hF1 hF2 HF ⊢
  have HF1 := Lib.hid hF1
  clear hF1 hFF Hl
  go_wp2_with fail
  refine (AtomR_spec (most := 12) (Hc.out.at Seq.way) (by omega) (by omega)).mono ?_
  rintro e w3 ⟨v3, rfl, hb, hs⟩
  replace hs := hs.any
  obtain ⟨a3, c3, rfl⟩ := hs.shape
  replace hb := below_step hb (Seq.way : Below w2.heap.size w2 _)
  replace Hc := Lib.hid (Hc.out.at hb)
  replace Ht := Lib.hid (Ht.out.at hb)
  replace HF := Lib.hid (HF.out.at hb)
  have HB3 := Lib.hid (below_step hb HB2.out)
  clear hb
  have HC := Lib.hid hs
  clear hs
  obtain ⟨C, hCL⟩ : ∃ CL, CL = atomT 12 c := ⟨_, rfl⟩
  have hcr := Lib.hid (show RightT C from by rw [hCL]; exact (atomT_right c (by omega) (by omega)).1)
  have hcl : C.length ≤ 12 := by rw [hCL]; exact (atomT_right c (by omega) (by omega)).2.1
  rw [← hCL] at HC ⊢
  clear hCL Hc
  have HT0 := Lib.hid (Ht.out.bnd.mono (T := fun b => b < w3.heap.size) (fun _ h _ => h.2) fun _ _ _ => rfl)
  have hfT := fun {w' : World} (h : Below w3.heap.size w3 w') => Lib.hid (HT0.out.at h)
  have hfF := fun {w' : World} (h : Below w3.heap.size w3 w') => Lib.hid (HF.out.at h)
  have hfC := fun {w' : World} (h : Below w3.heap.size w3 w') => Lib.hid (HC.out.at h)
  go_upto_block 0 with fail
  go_cut [8] (fun o wc => ∃ (s : List Bnd) (k : Nat), k ≤ 6 ∧ Hid (BndM k s) ∧ Hid (Seq bindE (fun _ => True) wc o s) ∧ Hid (Below w3.heap.size w3 wc))
  case first =>
    go_wp2_with fail
    go_loopw [8, 9] (fun o i wr => ∃ (k : Nat) (s : List Bnd), k ≤ t.length ∧ k ≤ 6 ∧ i = .int .i64 k ∧ Hid (BndM k s) ∧ Hid (Own bindE (fun _ => True) w3.heap.size 46 wr o s) ∧ Hid (Below w3.heap.size w3 wr)) (fun _ i _ => t.length - (intOf i).toNat)
    case atStart => exact ⟨0, [], Nat.zero_le _, Nat.zero_le _, rfl, Lib.hid bndM_nil, Lib.hid (Own.lit0 rfl (Nat.le_refl _) rfl), Lib.hid Seq.way⟩
    case round =>
      obtain ⟨k, s, hk, hk6, rfl, hM, hO, hbr⟩ := hrel
      have hzr := hbr.out.size
      have hsl : s.length ≤ 6 := by have := hM.out.2.2; omega
      by_cases hlt : k < t.length ∧ k < 6
      · obtain ⟨hlt, hlt6⟩ := hlt
        obtain ⟨_, _, ee, -, -, -, -, x5⟩ := (hfT hbr.out).out
        simp only [Value.slice.injEq, true_and] at ee
        obtain ⟨rfl, rfl⟩ := ee
        obtain ⟨b1, o1, p1, n1, rfl, -, l1, c0, hX⟩ := x5.seq hlt
        have HX0 := Lib.hid hX
        obtain ⟨x, hx⟩ : ∃ x, x = t[k] := ⟨_, rfl⟩
        rw [← hx] at c0 HX0
        have hkl : (k : Int) < (t.length : Int) := by omega
        have hk0 : (0 : Int) ≤ (k : Int) := by omega
        have hkl6 : (k : Int) < 6 := by omega
        have hkI : IntOK (k : Int) := ⟨by omega, by omega⟩
        clear hx x5 hX
        go_wp2_with fail
        refine (MadeC_spec (S := fun b => b < w3.heap.size) (HX0.out.at Seq.way) (most := 6) (by omega) (by omega)).mono ?_
        rintro e y1 ⟨v1, rfl, hb1, hs1⟩
        replace hb1 := below_step hb1 (Seq.way : Below wr.heap.size wr _)
        have hyr := (madeT_right x (most := 6) (by omega) (by omega))
        obtain ⟨Y, hY⟩ : ∃ Y, Y = madeT 6 x := ⟨_, rfl⟩
        rw [← hY] at hs1 hyr
        obtain ⟨ya, yc, rfl⟩ := hs1.shape
        have HY := Lib.hid hs1
        have Hyr := Lib.hid hyr
        have HYs := Lib.hid (show Seq cellE (fun b => b < w3.heap.size ∨ wr.heap.size ≤ b) y1 (.slice ya Y.length yc) Y from hs1.mono (fun b h _ => h.imp id fun h => by simpa using h) fun _ _ _ => rfl)
        have hl0 := hyr.1.pos
        have hyl := hyr.2
        have HO := Lib.hid (hO.out.move hb1)
        have Hb1 := Lib.hid (below_step hb1 hbr.out)
        have zb1 := hb1.size
        clear hY hs1 hyr HX0 c0
        obtain ⟨_, _, ee, -, -, -, -, y5⟩ := HY.out
        simp only [Value.slice.injEq, true_and] at ee
        obtain ⟨rfl, rfl⟩ := ee
        obtain ⟨g2, o2, rfl, -, l2, d0, d1, d2, -⟩ := y5.cell hl0
        have hno := Lib.hid (fun h => isV_ne (n := (k : Int)) Hyr.out.1 hl0 h)
        obtain ⟨c, hc⟩ : ∃ c, c = Y[0] := ⟨_, rfl⟩
        rw [← hc] at d0 d1 d2 hno
        simp only [Nat.zero_mul, Nat.add_zero] at d0 d1 d2
        have hyl0 : (0 : Int) < (Y.length : Int) := by omega
        clear hc y5 hb1
        have hOb := Lib.hid (fun b e => hO.out.blk (b := b) e)
        by_cases hkd : c.kind = 1
        · by_cases hcn : c.n = (k : Int)
          · rw [hkd] at d0
            rw [hcn] at d2
            clear hkd hcn hno
            go_wp2_with fail
            go_roundw
            case rel => exact ⟨k + 1, s, by omega, by omega, by go_num, Lib.hid (bndM_skip hM.out), Lib.hid (HO.out.move Seq.way), Lib.hid (below_step Seq.way Hb1.out)⟩
            case measure => simp [intOf]; omega
          · have hcn' : (c.n != (k : Int)) = true := by simp [hcn]
            have HM' := Lib.hid (bndM_put hM.out hlt6 Hyr.out.1 Hyr.out.2 (hno.out (.inr hcn)))
            rw [hkd] at d0
            clear hkd hcn hno
            go_wp2_with (at_builtin; (refine wpList_app_bindS (y := ⟨(k : Int), Y⟩) (Sy := fun b => b < w3.heap.size ∨ wr.heap.size ≤ b) rfl _ _ 42 rfl Tryz.underlying42 infoBindS rfl (HO.out.move Seq.way) rfl hkI (HYs.out.at Seq.way) (fun b h _ => ⟨trivial, fun e => by have := hOb.out b e; omega⟩) (by go_simp) (by go_simp) (by omega) (by simp; omega) ?_))
            intro ao cap w6 hown6 hkept6
            have H6 := Lib.hid hown6
            have K6 := Lib.hid (Hb1.out.trans (Below.trans (Below.mono (Seq.way : Below y1.heap.size y1 _) (by omega)) hkept6.below))
            clear hown6 hkept6
            go_wp2_with fail
            go_roundw
            case rel => exact ⟨k + 1, s ++ [⟨(k : Int), Y⟩], by omega, by omega, by go_num, HM', Lib.hid (by simpa using H6.out), K6⟩
            case measure => simp [intOf]; omega
        · have hkd' : (c.kind != 1) = true := by simp [hkd]
          have HM' := Lib.hid (bndM_put hM.out hlt6 Hyr.out.1 Hyr.out.2 (hno.out (.inl hkd)))
          clear hkd hno
          go_wp2_with (at_builtin; (refine wpList_app_bindS (y := ⟨(k : Int), Y⟩) (Sy := fun b => b < w3.heap.size ∨ wr.heap.size ≤ b) rfl _ _ 42 rfl Tryz.underlying42 infoBindS rfl (HO.out.move Seq.way) rfl hkI (HYs.out.at Seq.way) (fun b h _ => ⟨trivial, fun e => by have := hOb.out b e; omega⟩) (by go_simp) (by go_simp) (by omega) (by simp; omega) ?_))
          intro ao cap w6 hown6 hkept6
          have H6 := Lib.hid hown6
          have K6 := Lib.hid (Hb1.out.trans (Below.trans (Below.mono (Seq.way : Below y1.heap.size y1 _) (by omega)) hkept6.below))
          clear hown6 hkept6
          go_wp2_with fail
          go_roundw
          case rel => exact ⟨k + 1, s ++ [⟨(k : Int), Y⟩], by omega, by omega, by go_num, HM', Lib.hid (by simpa using H6.out), K6⟩
          case measure => simp [intOf]; omega
      · have HS := Lib.hid (hO.out.seq (T := fun _ => True) (by omega) fun _ _ _ => trivial)
        by_cases hlt1 : k < t.length
        · have hno6 : ¬ (k : Int) < 6 := by omega
          go_wp2_with fail
          go_meet
          exact ⟨s, k, hk6, hM, HS, hbr⟩
        · go_wp2_with fail
          go_meet
          exact ⟨s, k, hk6, hM, HS, hbr⟩
  case rest =>
    obtain ⟨s, k, hk6, hM, HS, hbr⟩ := hcut
    have hsl : s.length ≤ 6 := by have := hM.out.2.2; omega
    obtain ⟨sa, sc, rfl⟩ := HS.out.shape
    have HFr := Lib.hid (HF.out.at hbr.out)
    have HCr := Lib.hid (HC.out.at hbr.out)
    have HB4 := Lib.hid (below_step hbr.out HB3.out)
    have HM := Lib.hid hM.out
    have Hm6 := fun b hb => (HM.out.2.1 b hb).2
    clear hM hbr HF HC hfT hfF hfC HT0 Ht
    obtain ⟨is, his⟩ : ∃ b, b = (appO s C).isSome := ⟨_, rfl⟩
    obtain ⟨X, hX⟩ : ∃ X, X = (appO s C).getD [] := ⟨_, rfl⟩
    have Hap := Lib.hid (show is = true → (putT s C).length ≤ 200 ∧ X = putT s C from fun h => by
      by_cases h2 : (putT s C).length ≤ 200
      · exact ⟨h2, by rw [hX, appO_yes h2]; rfl⟩
      · rw [his, appO_none.2 (by omega)] at h; cases h)
    go_wp2_with fail
    refine (ApplyR_spec (HS.out.at Seq.way) (HCr.out.at Seq.way) (fun b hb => by have := Hm6 b hb; omega) (by omega)).mono ?_
    rintro e w5 ⟨v5, rfl, hb, hs⟩
    rw [← his]
    rw [← hX] at hs
    replace hs := hs.any
    obtain ⟨a5, c5, rfl⟩ := hs.shape
    replace hb := below_step hb (Seq.way : Below wc.heap.size wc _)
    replace HFr := Lib.hid (HFr.out.at hb)
    replace HCr := Lib.hid (HCr.out.at hb)
    have HB5 := Lib.hid (below_step hb HB4.out)
    clear hb
    have HX := Lib.hid hs
    clear hs his hX HS Hm6
    go_wp2_with fail
    refine (FindP_spec (HFr.out.at Seq.way) (HCr.out.at Seq.way) hcr.out (fun x hx => HF1.out.right x hx) (HF1.out.len)).mono ?_
    rintro e w6 ⟨v6, rfl, hb, hs⟩
    replace hs := hs.any
    obtain ⟨a6, c6, rfl⟩ := hs.shape
    replace hb := below_step hb (Seq.way : Below w5.heap.size w5 _)
    replace HFr := Lib.hid (HFr.out.at hb)
    replace HCr := Lib.hid (HCr.out.at hb)
    replace HX := Lib.hid (HX.out.at hb)
    have HB6 := Lib.hid (below_step hb HB5.out)
    clear hb
    have HA := Lib.hid hs
    clear hs
    have hA1 := Lib.hid (findT_row (c := C) HF1.out)
    have hAm := Lib.hid (fun x => (mem_findT (F := F) (c := C) (x := x)))
    have hAl : (findT C F).length ≤ 60 := Nat.le_trans (List.length_filter_le _ _) hF2
    obtain ⟨A, hA⟩ : ∃ A, A = findT C F := ⟨_, rfl⟩
    rw [← hA] at HA hA1 hAm hAl ⊢
    have hAx := Lib.hid hA
    clear hA
    go_wp2_with fail
    refine (RightP12_spec (HA.out.at Seq.way)).mono ?_
    rintro e w7 ⟨rfl, hb⟩
    rw [rowR_of hA1.out (by omega)]
    replace hb := below_step hb (Seq.way : Below w6.heap.size w6 _)
    replace HFr := Lib.hid (HFr.out.at hb)
    replace HCr := Lib.hid (HCr.out.at hb)
    replace HX := Lib.hid (HX.out.at hb)
    replace HA := Lib.hid (HA.out.at hb)
    have HB7 := Lib.hid (below_step hb HB6.out)
    clear hb
    have hfA := fun {w' : World} (h : Below w7.heap.size w7 w') => Lib.hid (HA.out.at h)
    have hfF := fun {w' : World} (h : Below w7.heap.size w7 w') => Lib.hid (HFr.out.at h)
    have hfC := fun {w' : World} (h : Below w7.heap.size w7 w') => Lib.hid (HCr.out.at h)
    go_wp2_with fail
    go_loopw [14] (fun i wz => ∃ k : Nat, k ≤ A.length ∧ i = .int .i64 k ∧ Hid (Below w7.heap.size w7 wz)) (fun i _ => A.length - (intOf i).toNat)
    case atStart => exact ⟨0, Nat.zero_le _, rfl, Lib.hid Seq.way⟩
    case round =>
      obtain ⟨k, hk, rfl, hbr⟩ := hrel
      by_cases hlt : k < A.length
      · obtain ⟨_, _, ee, -, -, -, -, x5⟩ := (hfA hbr.out).out
        simp only [Value.slice.injEq, true_and] at ee
        obtain ⟨rfl, rfl⟩ := ee
        obtain ⟨b1, o1, p1, n1, rfl, -, l1, c0, hX1⟩ := x5.seq hlt
        have hin := (hAm.out A[k]).1 (List.getElem_mem hlt)
        have hfx := findT_self HF1.out hin.1
        have hsub := Lib.hid (show (A.take (k + 1)).drop k = [A[k]] by rw [List.take_succ_eq_append_getElem hlt, List.drop_left' (by simp; omega)])
        have HX1 := Lib.hid hX1
        obtain ⟨x, hx⟩ : ∃ x, x = A[k] := ⟨_, rfl⟩
        rw [← hx] at c0 HX1 hin hfx hsub
        have hxr := Lib.hid (HF1.out.right x hin.1)
        have hkl : (k : Int) < (A.length : Int) := by omega
        have hk0 : (0 : Int) ≤ (k : Int) := by omega
        have hd1 := decide_eq_true hin.1
        have hd2 := hin.2
        have Hfx := Lib.hid hfx
        clear hx x5 hX1 hin hfx
        go_wp2_with fail
        refine (MatchR_spec ((hfC hbr.out).out.at Seq.way) (HX1.out.at Seq.way) (by omega) hxr.out).mono ?_
        rintro e y1 ⟨vx, rfl, hb1⟩
        rw [hd2]
        replace hb1 := below_step hb1 (Seq.way : Below wr.heap.size wr _)
        have Hb1 := Lib.hid (below_step hb1 hbr.out)
        have e0 : y1.cell? ⟨b1, o1 + k, none⟩ = _ := (hb1.cell (p := ⟨b1, o1 + k, none⟩) l1).trans c0
        have l2 : b1 < y1.heap.size := Nat.lt_of_lt_of_le l1 hb1.size
        replace HX1 := Lib.hid (HX1.out.at hb1)
        clear hb1 c0 l1 hd2
        have Kp := fun {W : World} (h : Below y1.heap.size y1 W) => Lib.hid (show W.cell? ⟨b1, o1 + k, none⟩ = some (.slice p1 x.length n1) from (h.cell (p := ⟨b1, o1 + k, none⟩) l2).trans e0)
        have hfF1 := fun {w' : World} (h : Below y1.heap.size y1 w') => Lib.hid (hfF (below_step h Hb1.out)).out
        have hfA1 := fun {w' : World} (h : Below y1.heap.size y1 w') => Lib.hid (hfA (below_step h Hb1.out)).out
        have hfX1 := fun {w' : World} (h : Below y1.heap.size y1 w') => Lib.hid (HX1.out.at h)
        have hck : k + 1 ≤ c6 := by obtain ⟨_, _, e, h, -⟩ := (hfA (Below.refl _ _)).out; simp only [Value.slice.injEq, true_and] at e; obtain ⟨rfl, rfl⟩ := e; omega
        have hkA : (k : Int) + 1 ≤ (c6 : Int) := by omega
        have hif : (if c6 = k then (some ⟨b1, o1, none⟩ : Option Addr) else some ⟨b1, o1 + k, none⟩) = some ⟨b1, o1 + k, none⟩ := by rw [if_neg (by omega)]
        have hkn : ((k : Int) + 1).toNat = k + 1 := by omega
        have hkw : IntKind.i64.wrap ((k : Int) + 1) = (k : Int) + 1 := by rw [IntKind.wrap_i64]; omega
        have hk1 : (0 : Int) ≤ (k : Int) + 1 := by omega
        have hk2 : (k : Int) ≤ (k : Int) + 1 := by omega
        have hfS := fun {w' : World} (h : Below y1.heap.size y1 w') => Lib.hid (show Seq (seqE cellE) (fun _ => True) w' (.slice (some ⟨b1, o1 + k, none⟩) 1 (c6 - k)) [x] by
          have := (hfA1 h).out.piece (i := k) (j := k + 1) (bo := some ⟨b1, o1 + k, none⟩) (n := 1) (c := c6 - k) (by omega) (by omega) (by rw [if_neg (by omega)]; simp [Addr.add_lit, seqE]) (by omega) rfl
          rwa [hsub.out] at this)
        clear l2
        go_wp2_with fail
        go_region_held3 (fun w' => w'.cell? ⟨b1, o1 + k, none⟩ = some (.slice p1 x.length n1))
          (first | exact e0 | exact (Kp Seq.way).out | go_keep)
          (first
            | (go_at_call 25; refine (HasR_spec (hfF1 Seq.way).out (hfX1 Seq.way).out).mono ?_; rintro e y2 ⟨rfl, hq2⟩; have hb2 : Below y1.heap.size y1 y2 := (below_step hq2.belowS Seq.way); rw [hd1])
            | (go_at_call 26; refine (FindP_spec (hfF1 Seq.way).out (hfX1 Seq.way).out hxr.out (fun x hx => HF1.out.right x hx) HF1.out.len).mono ?_; rintro e y3 ⟨v3, rfl, hb3, hs3⟩; rw [Hfx.out] at hs3; have hb3' : Below y1.heap.size y1 y3 := (below_step hb3 Seq.way); have Hs3 := Lib.hid hs3.any; obtain ⟨a9, c9, rfl⟩ := hs3.any.shape; clear hs3 hb3)
            | (go_at_call 23; refine (SameR12_spec (Hs3.out.at Seq.way) (hfS Seq.way).out).mono ?_; rintro e y4 ⟨rfl, hq4⟩; have hb4 : Below y1.heap.size y1 y4 := (below_step hq4.belowS Seq.way); rw [decide_eq_true rfl]))
        have HB9 := Lib.hid (below_step hb4 Hb1.out)
        clear Kp hfF1 hfA1 hfX1 hfS e0 hb2 hb3' hb4
        go_wp2_with fail
        go_roundw
        case rel => exact ⟨k + 1, hlt, by go_num, Lib.hid (below_step Seq.way HB9.out)⟩
        case measure => simp [intOf]; omega
      · have HB8 := Lib.hid (below_step hbr.out HB7.out)
        have HFz := Lib.hid (hfF hbr.out).out
        have HAz := Lib.hid (hfA hbr.out).out
        have HXz := Lib.hid (HX.out.at hbr.out)
        clear hfF hfA hfC HX HFr HCr HA hbr
        cases is
        · go_wp2_with fail
          go_ret
          exact ⟨rfl, HB8.out⟩
        · have hp2 := (Hap.out rfl).1
          have hXp := (Hap.out rfl).2
          have hXr := Lib.hid (show RightT X by rw [hXp]; exact put_right HM.out.1 hcr.out hp2)
          have hBA := Lib.hid (show ∀ y ∈ findT X F, y ∈ A from fun y hy => by rw [hXp] at hy; rw [hAx.out]; exact findT_more HM.out.1 hcr.out hp2 HF1.out y hy)
          clear hXp hp2 Hap
          go_wp2_with fail
          refine (FindP_spec (HFz.out.at Seq.way) (HXz.out.at Seq.way) hXr.out (fun x hx => HF1.out.right x hx) HF1.out.len).mono ?_
          rintro e w9 ⟨v9, rfl, hb, hs⟩
          replace hs := hs.any
          obtain ⟨a9, c9, rfl⟩ := hs.shape
          replace hb := below_step hb (Seq.way : Below wr.heap.size wr _)
          have HAy := Lib.hid (HAz.out.at hb)
          have HB9 := Lib.hid (below_step hb HB8.out)
          have HBs := Lib.hid hs
          clear hb hs HAz HFz HXz
          have hBl : (findT X F).length ≤ 60 := Nat.le_trans (List.length_filter_le _ _) hF2
          obtain ⟨B, hB⟩ : ∃ B, B = findT X F := ⟨_, rfl⟩
          rw [← hB] at HBs hBA hBl ⊢
          clear hB
          have hfB := fun {w' : World} (h : Below w9.heap.size w9 w') => Lib.hid (HBs.out.at h)
          have hfA := fun {w' : World} (h : Below w9.heap.size w9 w') => Lib.hid (HAy.out.at h)
          go_wp2_with fail
          go_loopw [18] (fun i wz => ∃ k : Nat, k ≤ B.length ∧ i = .int .i64 k ∧ Hid (Below w9.heap.size w9 wz)) (fun i _ => B.length - (intOf i).toNat)
          case atStart => exact ⟨0, Nat.zero_le _, rfl, Lib.hid Seq.way⟩
          case round =>
            clear hlt hk
            obtain ⟨k, hk, rfl, hbr⟩ := hrel
            by_cases hlt : k < B.length
            · obtain ⟨_, _, ee, -, -, -, -, x5⟩ := (hfB hbr.out).out
              simp only [Value.slice.injEq, true_and] at ee
              obtain ⟨rfl, rfl⟩ := ee
              obtain ⟨b1, o1, p1, n1, rfl, -, l1, c0, hX1⟩ := x5.seq hlt
              have hin := hBA.out B[k] (List.getElem_mem hlt)
              have HX1 := Lib.hid hX1
              obtain ⟨x, hx⟩ : ∃ x, x = B[k] := ⟨_, rfl⟩
              rw [← hx] at c0 HX1 hin
              have hkl : (k : Int) < (B.length : Int) := by omega
              have hk0 : (0 : Int) ≤ (k : Int) := by omega
              have hd1 := decide_eq_true hin
              clear hx x5 hX1 hin
              go_wp2_with fail
              refine (HasR_spec ((hfA hbr.out).out.at Seq.way) (HX1.out.at Seq.way)).mono ?_
              rintro e y1 ⟨rfl, hq1⟩
              have hb1 := Lib.hid (below_step (below_step hq1.belowS (Seq.way : Below wr.heap.size wr _)) hbr.out)
              rw [hd1]
              clear hq1 c0
              go_wp2_with fail
              go_roundw
              case rel => exact ⟨k + 1, hlt, by go_num, Lib.hid (below_step Seq.way hb1.out)⟩
              case measure => simp [intOf]; omega
            · obtain rfl : k = B.length := by omega
              have HBe := Lib.hid (below_step hbr.out HB9.out)
              clear hlt
              go_wp2_with fail
              go_ret
              exact ⟨rfl, HBe.out⟩
end Go.Proofs.YtceipnlpofebmaaGreat
