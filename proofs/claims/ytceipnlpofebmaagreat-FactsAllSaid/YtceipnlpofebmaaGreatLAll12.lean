/-
  Layer 12: the walk of FactsAll.
-/
import Derived.Test.YtceipnlpofebmaaGreatMtU
namespace Go.Proofs.YtceipnlpofebmaaGreat
open Go Go.RowKit

theorem varsFrom_snoc' (k : Nat) : (List.range' 0 (k + 1)).map (fun i : Nat => vT (i : Int)) = (List.range' 0 k).map (fun i : Nat => vT (i : Int)) ++ [vT (k : Int)] := by
  rw [List.range'_concat, List.map_append]; simp

theorem endC_vars : ∀ (m j : Nat), j + m ≤ 900 → endC m (varsFrom j m) = some m
  | 0, j, _ => endC_zero _
  | m + 1, j, h => by
    rw [varsFrom_succ, endC_succ, if_pos (vT_ok ⟨by omega, by omega⟩), show arity (vT (j : Int)) = 0 from rfl, Nat.add_zero, endC_vars m (j + 1) (by omega)]; rfl

theorem call_right {q : ByteArray} {m : Nat} (hm : m < 4) (hq : nameOK q = true) : RightT ((⟨3, q, (m : Int)⟩ : Cell) :: varsFrom 0 m) := by
  have hl : (varsFrom 0 m).length = m := by simp [varsFrom]
  refine ⟨by rw [List.length_cons, hl]; omega, ?_⟩
  have hc : cellOK (⟨3, q, (m : Int)⟩ : Cell) = true := by
    unfold cellOK
    simp [hq]
    omega
  rw [endC_one, if_pos hc, show arity (⟨3, q, (m : Int)⟩ : Cell) = m from by simp [arity], endC_vars m 0 (by omega), List.length_cons, hl]; rfl

/-- Does it begin with that cell? -/
def hdB (H : Cell) (x : List Cell) : Bool := decide (x.head? = some H)
theorem findT_hd {H : Cell} {n : Nat} {F : List (List Cell)} (hk : H.kind ≠ 1) (hn : arity H = n) (hF : ∀ x ∈ F, RightT x) : findT (H :: varsFrom 0 n) F = fltL (hdB H) F := by
  unfold findT fltL
  refine List.filter_congr fun x hx => ?_
  obtain ⟨c, t, rfl, -, -⟩ := (hF x hx).cons
  rw [matchB_all hk hn (hF _ hx)]
  simp [hdB]

set_option maxHeartbeats 16000000 in
set_option maxRecDepth 100000 in
theorem all_spec (hH : ∀ w, Calls Tryz.prog 9 #[] w (RetV (.bool true) w)) {S : Nat → Prop} {w : World} {v : Value} {l : List (List Cell)} {nm n : Nat} (hl : Seq (seqE cellE) S w v l) (hnm : nm < 256) (hn : n < 256) :
    Calls Tryz.prog 6 #[v, .int .u8 nm, .int .u8 n] w (RetV (.bool true) w) := by
  have Hl := Lib.hid hl
  obtain ⟨la, lc, rfl, -⟩ := hl
  have HB0 := Lib.hid (Below.refl w.heap.size w)
  have b3 : bits .and .i64 (n : Int) 3 = ((n % 4 : Nat) : Int) := by rw [i64_and3]; omega
  obtain ⟨m, hm⟩ : ∃ m, m = n % 4 := ⟨_, rfl⟩
  rw [← hm] at b3
  have hm4 : m < 4 := by omega
  clear hm
  go_enter Tryz.func6, Tryz.ntmps6
  go_wp2_with fail
  refine (hH _).mono ?_
  rintro e w1 ⟨rfl, hb⟩
  replace hb := below_step hb (Seq.way : Below w.heap.size w _)
  replace Hl := Lib.hid (Hl.out.at hb)
  have HB1 := Lib.hid (below_step hb HB0.out)
  clear hb
  go_wp2_with fail
  refine (RowR_spec (most := 60) (Hl.out.at Seq.way) (by decide)).mono ?_
  rintro e w2 ⟨v2, rfl, hb, hs⟩
  replace hs := hs.any
  obtain ⟨a2, c2, rfl⟩ := hs.shape
  replace hb := below_step hb (Seq.way : Below w1.heap.size w1 _)
  have HB2 := Lib.hid (below_step hb HB1.out)
  clear hb
  have HF := Lib.hid hs
  clear hs Hl
  obtain ⟨hF1, hF2⟩ := rowF_rowT l (most := 60) (by omega)
  obtain ⟨F, hFF⟩ : ∃ F, F = rowF l 60 := ⟨_, rfl⟩
  rw [← hFF] at hF1 hF2 HF ⊢
  have HF1 := Lib.hid hF1
  clear hF1 hFF
  have b1 := u8_and1 nm hnm
  rcases (show nm % 2 = 0 ∨ nm % 2 = 1 by omega) with hq | hq
  · rw [hq] at b1
    replace b1 : bits .and .u8 (nm : Int) 1 = 0 := b1
    go_wp2_with fail
    go_loopw [8, 9] (fun o i wr => ∃ k : Nat, k ≤ m ∧ i = .int .i64 k ∧ Own cellE (fun _ => True) w2.heap.size 44 wr o ((⟨3, ⟨#[97]⟩, (m : Int)⟩ : Cell) :: (List.range' 0 k).map fun i : Nat => vT (i : Int)) ∧ Below w2.heap.size w2 wr) (fun _ i _ => m - (intOf i).toNat)
    case atStart => exact ⟨0, Nat.zero_le _, rfl, Own.lit1T (y := ⟨3, ⟨#[97]⟩, (m : Int)⟩) ⟨by simp, by simp⟩ ⟨by show _ ≤ (m : Int); omega, by show (m : Int) ≤ _; omega⟩ (by show (⟨#[97]⟩ : ByteArray).size ≤ _; decide) (Nat.le_refl _), Seq.way⟩
    case round =>
      obtain ⟨k, hk, rfl, hown, hbr⟩ := hrel
      have hzr := hbr.size
      by_cases hlt : k < m
      · have Hown := Lib.hid hown
        have Hbr := Lib.hid hbr
        clear hown
        have hy1 : IntOK (vT (k : Int)).kind := ⟨by show (-9223372036854775808 : Int) ≤ 1; omega, by show (1 : Int) ≤ 9223372036854775807; omega⟩
        have hy2 : IntOK (vT (k : Int)).n := ⟨by show (-9223372036854775808 : Int) ≤ (k : Int); omega, by show (k : Int) ≤ 9223372036854775807; omega⟩
        have hy3 : (vT (k : Int)).name.size ≤ 140737488355328 := by show (⟨#[]⟩ : ByteArray).size ≤ _; decide
        have hkl : (k : Int) < (m : Int) := by omega
        go_wp2_with (at_builtin; refine wpList_app_cell (wm := wr) rfl (.tmp 34) (.tmp 37) 23 rfl Tryz.underlying23 infoCell rfl Hown.out rfl (y := vT (k : Int)) Seq.way hy1 hy2 hy3 (by go_simp; rfl) (by go_simp; rfl) (by go_simp; rfl) (by simp; omega) hzr ?_)
        intro ao cap w' hown' hkept
        have H' := Lib.hid hown'
        have K' := Lib.hid (hbr.trans (Below.trans Seq.way hkept.below))
        clear hown' hkept
        go_wp2_with fail
        go_roundw
        case rel => exact ⟨k + 1, hlt, by go_num, by rw [varsFrom_snoc']; simpa using H'.out, K'.out⟩
        case measure => simp [intOf]; omega
      · obtain rfl : k = m := by omega
        have Hc := Lib.hid (hown.seq (T := fun _ => True) (by simp; omega) fun _ _ _ => trivial)
        have hcr := Lib.hid (call_right (q := ⟨#[97]⟩) hm4 (by decide +kernel))
        have Hfd := Lib.hid (findT_hd (H := ⟨3, ⟨#[97]⟩, (k : Int)⟩) (n := k) (F := F) (by simp) (by simp [arity]) HF1.out.right)
        obtain ⟨ca, cc, rfl⟩ := Hc.out.shape
        have HBr := Lib.hid (below_step hbr HB2.out)
        have HFr := Lib.hid (HF.out.at hbr)
        obtain ⟨H, hH'⟩ : ∃ H : Cell, H = ⟨3, ⟨#[97]⟩, (k : Int)⟩ := ⟨_, rfl⟩
        have hHc : ((⟨3, ⟨#[97]⟩, (k : Int)⟩ : Cell) :: (List.range' 0 k).map fun i : Nat => vT (i : Int)) = H :: varsFrom 0 k := by rw [hH']; rfl
        rw [hHc] at Hc
        rw [← hH'] at Hfd hcr
        clear hlt hown HF HB2 HB1 HB0 hH' hHc hbr hH hk
        simp only [List.length_cons, List.length_map, List.length_range'] at *
        obtain ⟨C, hC⟩ : ∃ C, C = H :: varsFrom 0 k := ⟨_, rfl⟩
        have hCl : C.length = k + 1 := by rw [hC]; simp [varsFrom]
        have hC0 : C[0]? = some H := by rw [hC]; rfl
        rw [← hC] at Hfd Hc hcr
        rw [show (varsFrom 0 k).length + 1 = C.length by rw [hCl]; simp [varsFrom]] at Hc
        rw [← hCl]
        have hCp : 0 < C.length := by omega
        clear hC hCl
        go_wp2_with fail
        refine (FindP_spec (HFr.out.at Seq.way) (Hc.out.at Seq.way) hcr.out (fun x hx => HF1.out.right x hx) (HF1.out.len)).mono ?_
        rintro e w3 ⟨v3, rfl, hb, hs⟩
        rw [Hfd.out] at hs
        replace hs := hs.any
        obtain ⟨a3, c3, rfl⟩ := hs.shape
        replace hb := below_step hb (Seq.way : Below wr.heap.size wr _)
        have HA := Lib.hid hs
        have HB3 := Lib.hid (below_step hb HBr.out)
        have HFb := Lib.hid (HFr.out.at hb).bnd
        replace Hc := Lib.hid (Hc.out.at hb)
        clear hs hb hzr hcr HFr
        have hfF := fun {w' : World} (h : Below w3.heap.size w3 w') => Lib.hid (HFb.out.at h)
        have hfC := fun {w' : World} (h : Below w3.heap.size w3 w') => Lib.hid (Hc.out.at h)
        go_wp2_with fail
        go_loopw [11, 12] (fun o i wz => ∃ k2 : Nat, k2 ≤ F.length ∧ i = .int .i64 k2 ∧ Own (seqE cellE) (fun b => b < w3.heap.size) w3.heap.size 23 wz o (fltL (hdB H) (F.take k2)) ∧ Below w3.heap.size w3 wz) (fun _ i _ => F.length - (intOf i).toNat)
        case atStart => exact ⟨0, Nat.zero_le _, rfl, Own.lit0 rfl (Nat.le_refl _) rfl, Seq.way⟩
        case round =>
          obtain ⟨k2, hk2, rfl, hown, hbz⟩ := hrel
          have hzz := hbz.size
          have hln := fltL_len (hdB H) (F.take k2)
          rw [List.length_take] at hln
          by_cases hlt : k2 < F.length
          · obtain ⟨_, _, ee, -, -, -, -, x5⟩ := (hfF hbz).out
            simp only [Value.slice.injEq, true_and] at ee
            obtain ⟨rfl, rfl⟩ := ee
            obtain ⟨g1, o1, p1, n1, rfl, -, l1, c0, hX⟩ := x5.seq hlt
            have hxr := HF1.out.right _ (List.getElem_mem hlt)
            have hy := Lib.hid (show hdB H F[k2] = false → fltL (hdB H) (F.take (k2 + 1)) = fltL (hdB H) (F.take k2) from fun h => fltL_no hlt h)
            have hz := Lib.hid (show hdB H F[k2] = true → fltL (hdB H) (F.take (k2 + 1)) = fltL (hdB H) (F.take k2) ++ [F[k2]] from fun h => fltL_yes hlt h)
            have HX := Lib.hid (((hfF (Below.refl _ w3)).out.bnd.at hbz))
            have HX0 := Lib.hid hX
            obtain ⟨x, hx⟩ : ∃ x, x = F[k2] := ⟨_, rfl⟩
            rw [← hx] at c0 HX0 hy hz hxr
            have hl0 := hxr.pos
            obtain ⟨_, _, ee, -, -, -, -, y5⟩ := HX0.out
            simp only [Value.slice.injEq, true_and] at ee
            obtain ⟨rfl, rfl⟩ := ee
            obtain ⟨g2, o2, rfl, -, l2, d0, d1, d2, -⟩ := y5.cell hl0
            obtain ⟨_, _, ee, -, -, -, -, z5⟩ := (hfC hbz).out
            simp only [Value.slice.injEq, true_and] at ee
            obtain ⟨rfl, rfl⟩ := ee
            obtain ⟨g3, o3, rfl, -, l3, e0, e1, e2, -⟩ := z5.cell hCp
            have hCH : C[0] = H := by have := List.getElem?_eq_getElem hCp; rw [hC0] at this; exact (Option.some.inj this).symm
            rw [hCH] at e0 e1 e2
            simp only [Nat.zero_mul, Nat.add_zero] at d0 d1 d2 e0 e1 e2
            have hhd := Lib.hid (show hdB H x = decide (x[0] = H) by cases x with | nil => simp at hl0 | cons c t => simp [hdB])
            obtain ⟨c, hc⟩ : ∃ c, c = x[0] := ⟨_, rfl⟩
            rw [← hc] at d0 d1 d2 hhd
            have hkl : (k2 : Int) < (F.length : Int) := by omega
            have hk0 : (0 : Int) ≤ (k2 : Int) := by omega
            have hxl : (0 : Int) < (x.length : Int) := by omega
            have hcl : (0 : Int) < (C.length : Int) := by omega
            have Hown := Lib.hid hown
            have HBz := Lib.hid hbz
            clear hx x5 y5 z5 hX hown hc hxr hCH hC0
            by_cases he : c = H
            · have hz' := Lib.hid (hz.out (by rw [hhd.out]; exact decide_eq_true he))
              subst he
              clear hy hz hhd
              have l1' : g1 < wr.heap.size := l1
              go_wp2_with fail
              go_quiet (fail)
              go_wp2_with (at_builtin; (refine wpList_app_seq (E := cellE) (S := fun b => b < w3.heap.size) (base := w3.heap.size) (wm := wr) (y := x) rfl (.tmp 59) (.tmp 64) 22 rfl Tryz.underlying22 infoSeq rfl Hown.out rfl Seq.way (HX0.out.at Seq.way) (fun b h _ => ⟨h.2, .inl h.2⟩) ((Row.new _ [_] _ rfl).cell (j := 0) (by simp)) (by omega) hzz ?_))
              intro ao2 cap2 w5 hown2 hk5
              have H2 := Lib.hid hown2
              have K2 := Lib.hid (HBz.out.trans (Below.trans (Below.mono (Seq.way : Below wr.heap.size wr _) hzz) hk5.below))
              clear hown2 hk5
              go_wp2_with fail
              go_roundw
              case rel => exact ⟨k2 + 1, hlt, by go_num, by rw [hz'.out]; simpa using H2.out, K2.out⟩
              case measure => simp [intOf]; omega
            · have hy' := Lib.hid (hy.out (by rw [hhd.out]; exact decide_eq_false he))
              rcases cell_ne he with q1 | ⟨q1, q2⟩ | ⟨q1, q2, q3⟩
              all_goals
                clear hy hz hhd he
                go_wp2_with fail
                go_quiet (fail)
                go_wp2_with fail
                go_roundw
                case rel => exact ⟨k2 + 1, hlt, by go_num, by rw [hy'.out]; exact Hown.out.move Seq.way, below_step Seq.way HBz.out⟩
                case measure => simp [intOf]; omega
          · obtain rfl : k2 = F.length := by omega
            rw [List.take_length] at hown hln
            have HW := Lib.hid (hown.seq (T := fun _ => True) (by omega) fun _ _ _ => trivial)
            obtain ⟨wa, wc, rfl⟩ := HW.out.shape
            have HAz := Lib.hid (HA.out.at hbz)
            have HBz := Lib.hid (below_step hbz HB3.out)
            clear hown
            go_wp2_with fail
            refine (SameR12_spec (HAz.out.at Seq.way) (HW.out.at Seq.way)).mono ?_
            rintro e w6 ⟨rfl, hq6⟩
            have hb6 := hq6.belowS
            rw [decide_eq_true rfl]
            clear hq6
            go_wp2_with fail
            go_ret
            exact ⟨rfl, below_step (below_step hb6 Seq.way) HBz.out⟩
  · rw [hq] at b1
    replace b1 : bits .and .u8 (nm : Int) 1 = 1 := b1
    go_wp2_with fail
    go_loopw [8, 9] (fun o i wr => ∃ k : Nat, k ≤ m ∧ i = .int .i64 k ∧ Own cellE (fun _ => True) w2.heap.size 44 wr o ((⟨3, ⟨#[102]⟩, (m : Int)⟩ : Cell) :: (List.range' 0 k).map fun i : Nat => vT (i : Int)) ∧ Below w2.heap.size w2 wr) (fun _ i _ => m - (intOf i).toNat)
    case atStart => exact ⟨0, Nat.zero_le _, rfl, Own.lit1T (y := ⟨3, ⟨#[102]⟩, (m : Int)⟩) ⟨by simp, by simp⟩ ⟨by show _ ≤ (m : Int); omega, by show (m : Int) ≤ _; omega⟩ (by show (⟨#[102]⟩ : ByteArray).size ≤ _; decide) (Nat.le_refl _), Seq.way⟩
    case round =>
      obtain ⟨k, hk, rfl, hown, hbr⟩ := hrel
      have hzr := hbr.size
      by_cases hlt : k < m
      · have Hown := Lib.hid hown
        have Hbr := Lib.hid hbr
        clear hown
        have hy1 : IntOK (vT (k : Int)).kind := ⟨by show (-9223372036854775808 : Int) ≤ 1; omega, by show (1 : Int) ≤ 9223372036854775807; omega⟩
        have hy2 : IntOK (vT (k : Int)).n := ⟨by show (-9223372036854775808 : Int) ≤ (k : Int); omega, by show (k : Int) ≤ 9223372036854775807; omega⟩
        have hy3 : (vT (k : Int)).name.size ≤ 140737488355328 := by show (⟨#[]⟩ : ByteArray).size ≤ _; decide
        have hkl : (k : Int) < (m : Int) := by omega
        go_wp2_with (at_builtin; refine wpList_app_cell (wm := wr) rfl (.tmp 34) (.tmp 37) 23 rfl Tryz.underlying23 infoCell rfl Hown.out rfl (y := vT (k : Int)) Seq.way hy1 hy2 hy3 (by go_simp; rfl) (by go_simp; rfl) (by go_simp; rfl) (by simp; omega) hzr ?_)
        intro ao cap w' hown' hkept
        have H' := Lib.hid hown'
        have K' := Lib.hid (hbr.trans (Below.trans Seq.way hkept.below))
        clear hown' hkept
        go_wp2_with fail
        go_roundw
        case rel => exact ⟨k + 1, hlt, by go_num, by rw [varsFrom_snoc']; simpa using H'.out, K'.out⟩
        case measure => simp [intOf]; omega
      · obtain rfl : k = m := by omega
        have Hc := Lib.hid (hown.seq (T := fun _ => True) (by simp; omega) fun _ _ _ => trivial)
        have hcr := Lib.hid (call_right (q := ⟨#[102]⟩) hm4 (by decide +kernel))
        have Hfd := Lib.hid (findT_hd (H := ⟨3, ⟨#[102]⟩, (k : Int)⟩) (n := k) (F := F) (by simp) (by simp [arity]) HF1.out.right)
        obtain ⟨ca, cc, rfl⟩ := Hc.out.shape
        have HBr := Lib.hid (below_step hbr HB2.out)
        have HFr := Lib.hid (HF.out.at hbr)
        obtain ⟨H, hH'⟩ : ∃ H : Cell, H = ⟨3, ⟨#[102]⟩, (k : Int)⟩ := ⟨_, rfl⟩
        have hHc : ((⟨3, ⟨#[102]⟩, (k : Int)⟩ : Cell) :: (List.range' 0 k).map fun i : Nat => vT (i : Int)) = H :: varsFrom 0 k := by rw [hH']; rfl
        rw [hHc] at Hc
        rw [← hH'] at Hfd hcr
        clear hlt hown HF HB2 HB1 HB0 hH' hHc hbr hH hk
        simp only [List.length_cons, List.length_map, List.length_range'] at *
        obtain ⟨C, hC⟩ : ∃ C, C = H :: varsFrom 0 k := ⟨_, rfl⟩
        have hCl : C.length = k + 1 := by rw [hC]; simp [varsFrom]
        have hC0 : C[0]? = some H := by rw [hC]; rfl
        rw [← hC] at Hfd Hc hcr
        rw [show (varsFrom 0 k).length + 1 = C.length by rw [hCl]; simp [varsFrom]] at Hc
        rw [← hCl]
        have hCp : 0 < C.length := by omega
        clear hC hCl
        go_wp2_with fail
        refine (FindP_spec (HFr.out.at Seq.way) (Hc.out.at Seq.way) hcr.out (fun x hx => HF1.out.right x hx) (HF1.out.len)).mono ?_
        rintro e w3 ⟨v3, rfl, hb, hs⟩
        rw [Hfd.out] at hs
        replace hs := hs.any
        obtain ⟨a3, c3, rfl⟩ := hs.shape
        replace hb := below_step hb (Seq.way : Below wr.heap.size wr _)
        have HA := Lib.hid hs
        have HB3 := Lib.hid (below_step hb HBr.out)
        have HFb := Lib.hid (HFr.out.at hb).bnd
        replace Hc := Lib.hid (Hc.out.at hb)
        clear hs hb hzr hcr HFr
        have hfF := fun {w' : World} (h : Below w3.heap.size w3 w') => Lib.hid (HFb.out.at h)
        have hfC := fun {w' : World} (h : Below w3.heap.size w3 w') => Lib.hid (Hc.out.at h)
        go_wp2_with fail
        go_loopw [11, 12] (fun o i wz => ∃ k2 : Nat, k2 ≤ F.length ∧ i = .int .i64 k2 ∧ Own (seqE cellE) (fun b => b < w3.heap.size) w3.heap.size 23 wz o (fltL (hdB H) (F.take k2)) ∧ Below w3.heap.size w3 wz) (fun _ i _ => F.length - (intOf i).toNat)
        case atStart => exact ⟨0, Nat.zero_le _, rfl, Own.lit0 rfl (Nat.le_refl _) rfl, Seq.way⟩
        case round =>
          obtain ⟨k2, hk2, rfl, hown, hbz⟩ := hrel
          have hzz := hbz.size
          have hln := fltL_len (hdB H) (F.take k2)
          rw [List.length_take] at hln
          by_cases hlt : k2 < F.length
          · obtain ⟨_, _, ee, -, -, -, -, x5⟩ := (hfF hbz).out
            simp only [Value.slice.injEq, true_and] at ee
            obtain ⟨rfl, rfl⟩ := ee
            obtain ⟨g1, o1, p1, n1, rfl, -, l1, c0, hX⟩ := x5.seq hlt
            have hxr := HF1.out.right _ (List.getElem_mem hlt)
            have hy := Lib.hid (show hdB H F[k2] = false → fltL (hdB H) (F.take (k2 + 1)) = fltL (hdB H) (F.take k2) from fun h => fltL_no hlt h)
            have hz := Lib.hid (show hdB H F[k2] = true → fltL (hdB H) (F.take (k2 + 1)) = fltL (hdB H) (F.take k2) ++ [F[k2]] from fun h => fltL_yes hlt h)
            have HX := Lib.hid (((hfF (Below.refl _ w3)).out.bnd.at hbz))
            have HX0 := Lib.hid hX
            obtain ⟨x, hx⟩ : ∃ x, x = F[k2] := ⟨_, rfl⟩
            rw [← hx] at c0 HX0 hy hz hxr
            have hl0 := hxr.pos
            obtain ⟨_, _, ee, -, -, -, -, y5⟩ := HX0.out
            simp only [Value.slice.injEq, true_and] at ee
            obtain ⟨rfl, rfl⟩ := ee
            obtain ⟨g2, o2, rfl, -, l2, d0, d1, d2, -⟩ := y5.cell hl0
            obtain ⟨_, _, ee, -, -, -, -, z5⟩ := (hfC hbz).out
            simp only [Value.slice.injEq, true_and] at ee
            obtain ⟨rfl, rfl⟩ := ee
            obtain ⟨g3, o3, rfl, -, l3, e0, e1, e2, -⟩ := z5.cell hCp
            have hCH : C[0] = H := by have := List.getElem?_eq_getElem hCp; rw [hC0] at this; exact (Option.some.inj this).symm
            rw [hCH] at e0 e1 e2
            simp only [Nat.zero_mul, Nat.add_zero] at d0 d1 d2 e0 e1 e2
            have hhd := Lib.hid (show hdB H x = decide (x[0] = H) by cases x with | nil => simp at hl0 | cons c t => simp [hdB])
            obtain ⟨c, hc⟩ : ∃ c, c = x[0] := ⟨_, rfl⟩
            rw [← hc] at d0 d1 d2 hhd
            have hkl : (k2 : Int) < (F.length : Int) := by omega
            have hk0 : (0 : Int) ≤ (k2 : Int) := by omega
            have hxl : (0 : Int) < (x.length : Int) := by omega
            have hcl : (0 : Int) < (C.length : Int) := by omega
            have Hown := Lib.hid hown
            have HBz := Lib.hid hbz
            clear hx x5 y5 z5 hX hown hc hxr hCH hC0
            by_cases he : c = H
            · have hz' := Lib.hid (hz.out (by rw [hhd.out]; exact decide_eq_true he))
              subst he
              clear hy hz hhd
              have l1' : g1 < wr.heap.size := l1
              go_wp2_with fail
              go_quiet (fail)
              go_wp2_with (at_builtin; (refine wpList_app_seq (E := cellE) (S := fun b => b < w3.heap.size) (base := w3.heap.size) (wm := wr) (y := x) rfl (.tmp 59) (.tmp 64) 22 rfl Tryz.underlying22 infoSeq rfl Hown.out rfl Seq.way (HX0.out.at Seq.way) (fun b h _ => ⟨h.2, .inl h.2⟩) ((Row.new _ [_] _ rfl).cell (j := 0) (by simp)) (by omega) hzz ?_))
              intro ao2 cap2 w5 hown2 hk5
              have H2 := Lib.hid hown2
              have K2 := Lib.hid (HBz.out.trans (Below.trans (Below.mono (Seq.way : Below wr.heap.size wr _) hzz) hk5.below))
              clear hown2 hk5
              go_wp2_with fail
              go_roundw
              case rel => exact ⟨k2 + 1, hlt, by go_num, by rw [hz'.out]; simpa using H2.out, K2.out⟩
              case measure => simp [intOf]; omega
            · have hy' := Lib.hid (hy.out (by rw [hhd.out]; exact decide_eq_false he))
              rcases cell_ne he with q1 | ⟨q1, q2⟩ | ⟨q1, q2, q3⟩
              all_goals
                clear hy hz hhd he
                go_wp2_with fail
                go_quiet (fail)
                go_wp2_with fail
                go_roundw
                case rel => exact ⟨k2 + 1, hlt, by go_num, by rw [hy'.out]; exact Hown.out.move Seq.way, below_step Seq.way HBz.out⟩
                case measure => simp [intOf]; omega
          · obtain rfl : k2 = F.length := by omega
            rw [List.take_length] at hown hln
            have HW := Lib.hid (hown.seq (T := fun _ => True) (by omega) fun _ _ _ => trivial)
            obtain ⟨wa, wc, rfl⟩ := HW.out.shape
            have HAz := Lib.hid (HA.out.at hbz)
            have HBz := Lib.hid (below_step hbz HB3.out)
            clear hown
            go_wp2_with fail
            refine (SameR12_spec (HAz.out.at Seq.way) (HW.out.at Seq.way)).mono ?_
            rintro e w6 ⟨rfl, hq6⟩
            have hb6 := hq6.belowS
            rw [decide_eq_true rfl]
            clear hq6
            go_wp2_with fail
            go_ret
            exact ⟨rfl, below_step (below_step hb6 Seq.way) HBz.out⟩
end Go.Proofs.YtceipnlpofebmaaGreat
