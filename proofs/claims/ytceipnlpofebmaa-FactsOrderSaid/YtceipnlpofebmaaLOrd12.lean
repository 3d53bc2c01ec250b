/-
  Layer 12: the walk of FactsOrder.
-/
import Derived.Test.YtceipnlpofebmaaMtW
import Derived.Deep.CutBlock
namespace Go.Proofs.Ytceipnlpofebmaa
open Go Go.RowKit

set_option maxHeartbeats 16000000 in
set_option maxRecDepth 100000 in
theorem order_spec (hH : ∀ w, Calls Try.prog 5 #[] w (RetV (.bool true) w)) {S : Nat → Prop} {w : World} {v : Value} {l : List (List Cell)} {turn : Nat} (hl : Seq (seqE cellE) S w v l) (hturn : turn < 256) :
    Calls Try.prog 3 #[v, .int .u8 turn] w (RetV (.bool true) w) := by
  have Hl := Lib.hid hl
  obtain ⟨la, lc, rfl, -⟩ := hl
  have HB0 := Lib.hid (Below.refl w.heap.size w)
  go_enter Try.func3, Try.ntmps3
  go_wp2_with fail
  refine (hH _).mono ?_
  rintro e w1 ⟨rfl, hb⟩
  replace hb := below_step hb (Seq.way : Below w.heap.size w _)
  replace Hl := Lib.hid (Hl.out.at hb)
  have HB1 := Lib.hid (below_step hb HB0.out)
  clear hb
  have hfL := fun {w' : World} (h : Below w1.heap.size w1 w') => Lib.hid (Hl.out.bnd.at h)
  go_upto_block 0 with fail
  go_cut [6] (fun o wc => ∃ M : List (List Cell), Hid (Seq (seqE cellE) (fun _ => True) wc o M) ∧ Hid (∀ x ∈ M, factT x = true) ∧ M.length ≤ 30 ∧ Hid (Below w1.heap.size w1 wc))
  case first =>
    go_wp2_with fail
    go_loopw [6, 8] (fun o i wr => ∃ k : Nat, k ≤ l.length ∧ k ≤ 30 ∧ i = .int .i64 k ∧ Hid (Own (seqE cellE) (fun _ => True) w1.heap.size 24 wr o ((l.take k).map factM)) ∧ Hid (Below w1.heap.size w1 wr)) (fun _ i _ => l.length - (intOf i).toNat)
    case atStart => exact ⟨0, Nat.zero_le _, Nat.zero_le _, rfl, Lib.hid (Own.lit0 rfl (Nat.le_refl _) rfl), Lib.hid Seq.way⟩
    case round =>
      obtain ⟨k, hk, hk30, rfl, hO, hbr⟩ := hrel
      have hzr := hbr.out.size
      by_cases hlt : k < l.length ∧ k < 30
      · obtain ⟨hlt, hlt30⟩ := hlt
        obtain ⟨_, _, ee, -, -, -, -, x5⟩ := (hfL hbr.out).out
        simp only [Value.slice.injEq, true_and] at ee
        obtain ⟨rfl, rfl⟩ := ee
        obtain ⟨b1, o1, p1, n1, rfl, -, l1, c0, hX⟩ := x5.seq hlt
        have HX := Lib.hid hX
        have hst := Lib.hid (show (l.take (k + 1)).map factM = (l.take k).map factM ++ [factM l[k]] by rw [List.take_succ_eq_append_getElem hlt, List.map_append]; rfl)
        obtain ⟨x, hx⟩ : ∃ x, x = l[k] := ⟨_, rfl⟩
        rw [← hx] at c0 HX hst
        have hkl : (k : Int) < (l.length : Int) := by omega
        have hk0 : (0 : Int) ≤ (k : Int) := by omega
        have hk6 : (k : Int) < 30 := by omega
        clear hx x5 hX
        go_wp2_with fail
        refine (MadeR_spec (HX.out.at Seq.way)).mono ?_
        rintro e y1 ⟨v1, rfl, hb1, hs1⟩
        replace hb1 := below_step hb1 (Seq.way : Below wr.heap.size wr _)
        obtain ⟨ya, yc, rfl⟩ := hs1.shape
        have HY := Lib.hid (show Seq cellE (fun b => wr.heap.size ≤ b) y1 (.slice ya (factM x).length yc) (factM x) from hs1.mono (fun b h _ => by simpa using h) fun _ _ _ => rfl)
        have Hb1 := Lib.hid hb1
        have zb1 := hb1.size
        clear hs1 HX c0 hb1
        obtain ⟨X, hX⟩ : ∃ X, X = factM x := ⟨_, rfl⟩
        rw [← hX] at HY hst ⊢
        clear hX
        go_wp2_with (at_builtin; (refine wpList_app_seq (E := cellE) (S := fun _ => True) (base := w1.heap.size) (wm := wr) (y := X) rfl _ _ 22 rfl Try.underlying22 infoSeq12 rfl hO.out rfl (below_step Seq.way Hb1.out) (HY.out.at Seq.way) (fun b h _ => ⟨trivial, .inr h⟩) (by go_simp) (by simp; omega) hzr ?_))
        intro ao2 cap2 w5 hown2 hk5
        have H2 := Lib.hid hown2
        have K2 := Lib.hid (hbr.out.trans (Below.trans (Below.mono (below_step Seq.way Hb1.out) hzr) hk5.below))
        clear hown2 hk5
        go_wp2_with fail
        go_roundw
        case rel => exact ⟨k + 1, by omega, by omega, by go_num, Lib.hid (by rw [hst.out]; simpa using H2.out), K2⟩
        case measure => simp [intOf]; omega
      · have HMx := Lib.hid (hO.out.seq (T := fun _ => True) (by simp; omega) fun _ _ _ => trivial)
        have hMf := Lib.hid (show ∀ x ∈ (l.take k).map factM, factT x = true from fun x hx => by obtain ⟨y, -, rfl⟩ := List.mem_map.1 hx; exact (factM_fact y).1)
        have hMl : ((l.take k).map factM).length ≤ 30 := by simp; omega
        by_cases hlt1 : k < l.length
        · have hno6 : ¬ (k : Int) < 30 := by omega
          go_wp2_with fail
          go_meet
          exact ⟨_, HMx, hMf, hMl, hbr⟩
        · go_wp2_with fail
          go_meet
          exact ⟨_, HMx, hMf, hMl, hbr⟩
  case rest =>
    obtain ⟨M, HMx, hMf, hMl, hbr⟩ := hcut
    obtain ⟨ma, mc, rfl⟩ := HMx.out.shape
    have HB2 := Lib.hid (below_step hbr.out HB1.out)
    clear hbr Hl hfL
    have HMb := Lib.hid HMx.out.bnd
    clear HMx
    go_upto_if 45 with fail
    go_cut [7] (fun s7 wx => ∃ kk : Nat, s7 = .int .i64 kk ∧ Hid (kk < M.length ∨ (M.length = 0 ∧ kk = 0)) ∧ Hid (Below wc.heap.size wc wx))
    case first =>
      rcases Nat.eq_zero_or_pos M.length with hM0 | hM0
      · have hMI : (M.length : Int) = 0 := by omega
        go_wp2_with fail
        go_meet
        exact ⟨0, rfl, Lib.hid (.inr ⟨hM0, rfl⟩), Lib.hid Seq.way⟩
      · obtain ⟨kk, hkv⟩ : ∃ kk, kk = turn % M.length := ⟨_, rfl⟩
        have hkl : kk < M.length := by rw [hkv]; exact Nat.mod_lt _ hM0
        have hmI : (0 : Int) < (M.length : Int) := by omega
        have hm1 : (1 : Int) ≤ (M.length : Int) := by omega
        have ht0 : (0 : Int) ≤ (turn : Int) := by omega
        have hrem : (turn : Int) % (M.length : Int) = (kk : Int) := by rw [hkv]; rfl
        have hrem2 : (turn : Int).tmod (M.length : Int) = (kk : Int) := by rw [Int.tmod_eq_emod_of_nonneg (by omega)]; exact hrem
        clear hkv
        go_wp2_with fail
        go_meet
        exact ⟨kk, rfl, Lib.hid (.inl hkl), Lib.hid Seq.way⟩
    case rest =>
      obtain ⟨kk, rfl, hkk, hbx⟩ := hcut
      have HMc := Lib.hid (HMb.out.at hbx.out).bnd
      have HB2x := Lib.hid (below_step hbx.out HB2.out)
      clear HB2 HMb hbx
      have hfM := fun {w' : World} (h : Below wc.heap.size wc w') => Lib.hid (HMc.out.at h)
      have hkB : kk ≤ 30 := by have := hkk.out; omega
      go_wp2_with fail
      go_loopw [9, 10, 11] (fun o p i wz => ∃ (k2 : Nat) (a b : List (List Cell)), k2 ≤ M.length ∧ i = .int .i64 k2 ∧ Hid (AddedM M a (fun j => j) k2) ∧ Hid (AddedM M b (fun j => (j + kk) % M.length) k2) ∧ Hid (Seq (seqE cellE) (fun _ => True) wz o a) ∧ Hid (Seq (seqE cellE) (fun _ => True) wz p b) ∧ Hid (Below wc.heap.size wc wz)) (fun _ _ i _ => M.length - (intOf i).toNat)
      case atStart => exact ⟨0, [], [], Nat.zero_le _, rfl, Lib.hid (addedM_zero _ _), Lib.hid (addedM_zero _ _), Lib.hid (((Own.lit0 (E := seqE cellE) (S := fun _ => True) (base := 0) (e := 24) (w := wc) rfl (Nat.zero_le _) rfl).seq (T := fun _ => True) (by simp) fun _ _ _ => trivial).at Seq.way), Lib.hid ((Own.lit0 (E := seqE cellE) (S := fun _ => True) (base := 0) (e := 24) (w := wc.alloc (.cells #[] 24)) (by simp) (Nat.zero_le _) rfl).seq (T := fun _ => True) (by simp) fun _ _ _ => trivial), Lib.hid Seq.way⟩
      case round =>
        obtain ⟨k2, a, b, hk2, rfl, hA, hBb, HSa, HSb, hbz⟩ := hrel
        obtain ⟨aa, ac, rfl⟩ := HSa.out.shape
        obtain ⟨ba, bc, rfl⟩ := HSb.out.shape
        have hzz := hbz.out.size
        by_cases hlM : k2 < M.length
        · obtain ⟨q, hqv⟩ : ∃ q, q = (k2 + kk) % M.length := ⟨_, rfl⟩
          have hq : q < M.length := by rw [hqv]; exact Nat.mod_lt _ (by omega)
          have hx0 : M[(fun j => j) k2]? = some M[k2] := List.getElem?_eq_getElem hlM
          have hy0 : M[(fun j => (j + kk) % M.length) k2]? = some M[q] := by show M[(k2 + kk) % M.length]? = _; rw [← hqv]; exact List.getElem?_eq_getElem hq
          have hmod : ((k2 : Int) + (kk : Int)) % (M.length : Int) = (q : Int) := by rw [hqv]; simp
          have hmodt : ((k2 : Int) + (kk : Int)).tmod (M.length : Int) = (q : Int) := by rw [Int.tmod_eq_emod_of_nonneg (by omega)]; exact hmod
          have hsum : (0 : Int) ≤ (k2 : Int) + (kk : Int) := by omega
          clear hqv
          obtain ⟨_, _, ee, -, -, -, -, x5⟩ := (hfM hbz.out).out
          simp only [Value.slice.injEq, true_and] at ee
          obtain ⟨rfl, rfl⟩ := ee
          obtain ⟨b1, o1, p1, n1, e1, -, l1, c0, hX⟩ := x5.seq hlM
          obtain ⟨b2, o2, p2, n2, e2, -, l2, d0, hY⟩ := x5.seq hq
          subst e1
          simp only [Option.some.injEq, Addr.mk.injEq, and_true] at e2
          obtain ⟨rfl, rfl⟩ := e2
          obtain ⟨x, hx⟩ : ∃ x, x = M[k2] := ⟨_, rfl⟩
          obtain ⟨y, hy⟩ : ∃ x, x = M[q] := ⟨_, rfl⟩
          have hfx : factT x = true := by rw [hx]; exact hMf.out _ (List.getElem_mem hlM)
          have hfy : factT y = true := by rw [hy]; exact hMf.out _ (List.getElem_mem hq)
          rw [← hx] at c0 hX hx0
          rw [← hy] at d0 hY hy0
          have HX := Lib.hid hX
          have HY := Lib.hid hY
          have hkl : (k2 : Int) < (M.length : Int) := by omega
          have hk0 : (0 : Int) ≤ (k2 : Int) := by omega
          have hql : (q : Int) < (M.length : Int) := by omega
          have hq0 : (0 : Int) ≤ (q : Int) := by omega
          clear hx hy hX hY x5 l2
          obtain ⟨f1, f2, -⟩ := addedM_succ hA.out (by omega) hx0 hfx
          obtain ⟨g1, g2, g3⟩ := addedM_succ hBb.out (by omega) hy0 hfy
          obtain ⟨g4, g5⟩ := addO_again hfy g3
          have HA' := Lib.hid f1
          have HB' := Lib.hid g1
          have G4 := Lib.hid g4
          clear f1 g1 g3 g4 hx0 hy0 hfx hfy
          go_wp2_with fail
          refine (AddP_spec (HSa.out.at Seq.way) (HX.out.at Seq.way) hA.out.1).mono ?_
          rintro e y1 ⟨v1, rfl, hb1, hs⟩
          rw [f2]
          clear f2
          replace hs := hs.any
          obtain ⟨a3, c3, rfl⟩ := hs.shape
          have HR1 := Lib.hid hs
          clear hs
          replace hb1 := below_step hb1 (Seq.way : Below wr.heap.size wr _)
          replace HSb := Lib.hid (HSb.out.at hb1)
          replace HX := Lib.hid (HX.out.at hb1)
          replace HY := Lib.hid (HY.out.at hb1)
          replace c0 := (hb1.cell (p := ⟨b1, o1 + k2, none⟩) l1).trans c0
          replace d0 := (hb1.cell (p := ⟨b1, o1 + q, none⟩) l1).trans d0
          replace l1 := Nat.lt_of_lt_of_le l1 hb1.size
          have Hb1 := Lib.hid (hb1)
          clear hb1
          go_wp2_with fail
          refine (AddP_spec (HSb.out.at Seq.way) (HY.out.at Seq.way) hBb.out.1).mono ?_
          rintro e y2 ⟨v2, rfl, hb2, hs⟩
          rw [g2]
          clear g2
          replace hs := hs.any
          obtain ⟨a4, c4, rfl⟩ := hs.shape
          have HR2 := Lib.hid hs
          clear hs
          replace hb2 := below_step hb2 (Seq.way : Below y1.heap.size y1 _)
          replace HR1 := Lib.hid (HR1.out.at hb2)
          replace HX := Lib.hid (HX.out.at hb2)
          replace HY := Lib.hid (HY.out.at hb2)
          replace c0 := (hb2.cell (p := ⟨b1, o1 + k2, none⟩) l1).trans c0
          replace d0 := (hb2.cell (p := ⟨b1, o1 + q, none⟩) l1).trans d0
          replace l1 := Nat.lt_of_lt_of_le l1 hb2.size
          have Hb2 := Lib.hid (below_step hb2 Hb1.out)
          clear hb2
          go_wp2_with fail
          refine (AddP_spec (HR2.out.at Seq.way) (HY.out.at Seq.way) HB'.out.1).mono ?_
          rintro e y3 ⟨v3, rfl, hb3, hs⟩
          rw [g5]
          rw [G4.out] at hs
          clear g5
          replace hs := hs.any
          obtain ⟨a5, c5, rfl⟩ := hs.shape
          have HR3 := Lib.hid hs
          clear hs
          replace hb3 := below_step hb3 (Seq.way : Below y2.heap.size y2 _)
          replace HR1 := Lib.hid (HR1.out.at hb3)
          replace HR2 := Lib.hid (HR2.out.at hb3)
          replace c0 := (hb3.cell (p := ⟨b1, o1 + k2, none⟩) l1).trans c0
          replace d0 := (hb3.cell (p := ⟨b1, o1 + q, none⟩) l1).trans d0
          replace l1 := Nat.lt_of_lt_of_le l1 hb3.size
          have Hb3 := Lib.hid (below_step hb3 Hb2.out)
          clear hb3
          go_wp2_with fail
          refine (SameR12_spec (HR2.out.at Seq.way) (HR3.out.at Seq.way)).mono ?_
          rintro e y4 ⟨rfl, hq4⟩
          have hb4 := hq4.belowS
          rw [decide_eq_true rfl]
          clear hq4
          replace hb4 := below_step hb4 (Seq.way : Below y3.heap.size y3 _)
          replace HR1 := Lib.hid (HR1.out.at hb4)
          replace HR3 := Lib.hid (HR3.out.at hb4)
          have Hb4 := Lib.hid (below_step hb4 Hb3.out)
          clear hb4
          go_wp2_with fail
          go_roundw
          case rel => exact ⟨k2 + 1, addO a x, addO b y, hlM, by go_num, HA', HB', HR1, HR3, Lib.hid (below_step Hb4.out hbz.out)⟩
          case measure => simp [intOf]; omega
        · obtain rfl : k2 = M.length := by omega
          obtain rfl : b = a := (added_same hA.out hBb.out (by have := hkk.out; omega)).symm
          obtain ⟨A, rfl⟩ : ∃ A, A = b := ⟨b, rfl⟩
          have HA0 := Lib.hid hA.out.1
          have HMc := Lib.hid (hfM hbz.out).out
          have HB3 := Lib.hid (below_step hbz.out HB2x.out)
          clear hlM hA hBb hfM hbz
          go_wp2_with fail
          refine (SameR12_spec (HSa.out.at Seq.way) (HSb.out.at Seq.way)).mono ?_
          rintro e w4 ⟨rfl, hq4⟩
          have hb4 := hq4.belowS
          rw [decide_eq_true rfl]
          clear hq4
          replace hb4 := below_step hb4 (Seq.way : Below wr.heap.size wr _)
          replace HSa := Lib.hid (HSa.out.at hb4)
          replace HSb := Lib.hid (HSb.out.at hb4)
          replace HMc := Lib.hid (HMc.out.at hb4)
          have HB4 := Lib.hid (below_step hb4 HB3.out)
          clear hb4
          have hfM := fun {w' : World} (h : Below w4.heap.size w4 w') => Lib.hid (HMc.out.at h)
          go_wp2_with fail
          go_loopw [9, 10, 18] (fun o p i wz => ∃ (k3 : Nat) (a b : List (List Cell)), k3 ≤ kk ∧ i = .int .i64 k3 ∧ Hid (DroppedM M A a (fun j => j) k3) ∧ Hid (DroppedM M A b (fun j => kk - 1 - j) k3) ∧ Hid (Seq (seqE cellE) (fun _ => True) wz o a) ∧ Hid (Seq (seqE cellE) (fun _ => True) wz p b) ∧ Hid (Below w4.heap.size w4 wz)) (fun _ _ i _ => kk - (intOf i).toNat)
          case atStart => exact ⟨0, A, A, Nat.zero_le _, by go_num, Lib.hid (droppedM_zero _ HA0.out), Lib.hid (droppedM_zero _ HA0.out), Lib.hid (HSa.out.at Seq.way), Lib.hid (HSb.out.at Seq.way), Lib.hid Seq.way⟩
          case round =>
            clear HSa HSb hzz hk2
            obtain ⟨k3, a, b, hk3, rfl, hA, hBb, HSa, HSb, hbz⟩ := hrel
            obtain ⟨aa, ac, rfl⟩ := HSa.out.shape
            obtain ⟨ba, bc, rfl⟩ := HSb.out.shape
            have hzz := hbz.out.size
            by_cases hlt : k3 < kk
            · obtain ⟨q, hqv⟩ : ∃ q, q = kk - 1 - k3 := ⟨_, rfl⟩
              have hq : q < M.length := by have := hkk.out; omega
              have hlM : k3 < M.length := by have := hkk.out; omega
              have hx0 : M[(fun j => j) k3]? = some M[k3] := List.getElem?_eq_getElem hlM
              have hy0 : M[(fun j => kk - 1 - j) k3]? = some M[q] := by show M[kk - 1 - k3]? = _; rw [← hqv]; exact List.getElem?_eq_getElem hq
              have hsub : (kk : Int) - 1 - (k3 : Int) = (q : Int) := by omega
              have hkI : (k3 : Int) < (kk : Int) := by omega
              have hkk1 : (1 : Int) ≤ (kk : Int) := by omega
              clear hqv
              obtain ⟨_, _, ee, -, -, -, -, x5⟩ := (hfM hbz.out).out
              simp only [Value.slice.injEq, true_and] at ee
              obtain ⟨rfl, rfl⟩ := ee
              obtain ⟨b1, o1, p1, n1, e1, -, l1, c0, hX⟩ := x5.seq hlM
              obtain ⟨b2, o2, p2, n2, e2, -, l2, d0, hY⟩ := x5.seq hq
              subst e1
              simp only [Option.some.injEq, Addr.mk.injEq, and_true] at e2
              obtain ⟨rfl, rfl⟩ := e2
              obtain ⟨x, hx⟩ : ∃ x, x = M[k3] := ⟨_, rfl⟩
              obtain ⟨y, hy⟩ : ∃ x, x = M[q] := ⟨_, rfl⟩
              have hfx : factT x = true := by rw [hx]; exact hMf.out _ (List.getElem_mem hlM)
              have hfy : factT y = true := by rw [hy]; exact hMf.out _ (List.getElem_mem hq)
              rw [← hx] at c0 hX hx0
              rw [← hy] at d0 hY hy0
              have HX := Lib.hid hX
              have HY := Lib.hid hY
              have hkl : (k3 : Int) < (M.length : Int) := by omega
              have hk0 : (0 : Int) ≤ (k3 : Int) := by omega
              have hql : (q : Int) < (M.length : Int) := by omega
              have hq0 : (0 : Int) ≤ (q : Int) := by omega
              clear hx hy hX hY x5 l2
              have hRa := Lib.hid hA.out.1
              have hRb := Lib.hid hBb.out.1
              by_cases hxa : x ∈ a
              · obtain ⟨f1, f2⟩ := droppedM_yes hA.out hx0 hfx hxa
                have HA' := Lib.hid f1
                have hhx := decide_eq_true hxa
                clear f1 hx0 hxa
                by_cases hyb : y ∈ b
                · obtain ⟨g1, g2⟩ := droppedM_yes hBb.out hy0 hfy hyb
                  have HB' := Lib.hid g1
                  have hhy := decide_eq_true hyb
                  clear g1 hy0 hyb
                  go_wp2_with fail
                  refine (DropP_spec (HSa.out.at Seq.way) (HX.out.at Seq.way) hRa.out).mono ?_
                  rintro e y1 ⟨v1, rfl, hb1, hs⟩
                  rw [f2]
                  clear f2
                  replace hs := hs.any
                  obtain ⟨a3, c3, rfl⟩ := hs.shape
                  have HR1 := Lib.hid hs
                  clear hs
                  replace hb1 := below_step hb1 (Seq.way : Below wr.heap.size wr _)
                  replace HSa := Lib.hid (HSa.out.at hb1)
                  replace HSb := Lib.hid (HSb.out.at hb1)
                  replace HX := Lib.hid (HX.out.at hb1)
                  replace HY := Lib.hid (HY.out.at hb1)
                  replace c0 := (hb1.cell (p := ⟨b1, o1 + k3, none⟩) l1).trans c0
                  replace d0 := (hb1.cell (p := ⟨b1, o1 + q, none⟩) l1).trans d0
                  replace l1 := Nat.lt_of_lt_of_le l1 hb1.size
                  have Hb1 := Lib.hid (hb1)
                  clear hb1
                  go_wp2_with fail
                  refine (DropP_spec (HSb.out.at Seq.way) (HY.out.at Seq.way) hRb.out).mono ?_
                  rintro e y2 ⟨v2, rfl, hb2, hs⟩
                  rw [g2]
                  clear g2
                  replace hs := hs.any
                  obtain ⟨a4, c4, rfl⟩ := hs.shape
                  have HR2 := Lib.hid hs
                  clear hs
                  replace hb2 := below_step hb2 (Seq.way : Below y1.heap.size y1 _)
                  replace HSa := Lib.hid (HSa.out.at hb2)
                  replace HSb := Lib.hid (HSb.out.at hb2)
                  replace HR1 := Lib.hid (HR1.out.at hb2)
                  replace HX := Lib.hid (HX.out.at hb2)
                  replace HY := Lib.hid (HY.out.at hb2)
                  replace c0 := (hb2.cell (p := ⟨b1, o1 + k3, none⟩) l1).trans c0
                  replace d0 := (hb2.cell (p := ⟨b1, o1 + q, none⟩) l1).trans d0
                  replace l1 := Nat.lt_of_lt_of_le l1 hb2.size
                  have Hb2 := Lib.hid (below_step hb2 Hb1.out)
                  clear hb2
                  go_wp2_with fail
                  refine (HasP_spec (HSa.out.at Seq.way) (HX.out.at Seq.way) hRa.out.sort hRa.out.len).mono ?_
                  rintro e y3 ⟨rfl, hb3⟩
                  rw [hfx, hhx, Bool.true_and]
                  replace hb3 := below_step hb3 (Seq.way : Below y2.heap.size y2 _)
                  replace HSa := Lib.hid (HSa.out.at hb3)
                  replace HSb := Lib.hid (HSb.out.at hb3)
                  replace HR1 := Lib.hid (HR1.out.at hb3)
                  replace HR2 := Lib.hid (HR2.out.at hb3)
                  replace HX := Lib.hid (HX.out.at hb3)
                  replace HY := Lib.hid (HY.out.at hb3)
                  replace c0 := (hb3.cell (p := ⟨b1, o1 + k3, none⟩) l1).trans c0
                  replace d0 := (hb3.cell (p := ⟨b1, o1 + q, none⟩) l1).trans d0
                  replace l1 := Nat.lt_of_lt_of_le l1 hb3.size
                  have Hb3 := Lib.hid (below_step hb3 Hb2.out)
                  clear hb3
                  go_wp2_with fail
                  refine (HasP_spec (HSb.out.at Seq.way) (HY.out.at Seq.way) hRb.out.sort hRb.out.len).mono ?_
                  rintro e y4 ⟨rfl, hb4⟩
                  rw [hfy, hhy, Bool.true_and]
                  replace hb4 := below_step hb4 (Seq.way : Below y3.heap.size y3 _)
                  replace HSa := Lib.hid (HSa.out.at hb4)
                  replace HSb := Lib.hid (HSb.out.at hb4)
                  replace HR1 := Lib.hid (HR1.out.at hb4)
                  replace HR2 := Lib.hid (HR2.out.at hb4)
                  replace c0 := (hb4.cell (p := ⟨b1, o1 + k3, none⟩) l1).trans c0
                  replace d0 := (hb4.cell (p := ⟨b1, o1 + q, none⟩) l1).trans d0
                  replace l1 := Nat.lt_of_lt_of_le l1 hb4.size
                  have Hb4 := Lib.hid (below_step hb4 Hb3.out)
                  clear hb4
                  go_wp2_with fail
                  go_roundw
                  case rel => exact ⟨k3 + 1, dropO a x, dropO b y, hlt, by go_num, HA', HB', HR1, HR2, Lib.hid (below_step Hb4.out hbz.out)⟩
                  case measure => simp [intOf]; omega
                · obtain ⟨g1, g2, g3⟩ := droppedM_no hBb.out hy0 hfy hyb
                  have HB' := Lib.hid g1
                  have hhy := decide_eq_false hyb
                  clear g1 g3 hy0 hyb
                  go_wp2_with fail
                  refine (DropP_spec (HSa.out.at Seq.way) (HX.out.at Seq.way) hRa.out).mono ?_
                  rintro e y1 ⟨v1, rfl, hb1, hs⟩
                  rw [f2]
                  clear f2
                  replace hs := hs.any
                  obtain ⟨a3, c3, rfl⟩ := hs.shape
                  have HR1 := Lib.hid hs
                  clear hs
                  replace hb1 := below_step hb1 (Seq.way : Below wr.heap.size wr _)
                  replace HSa := Lib.hid (HSa.out.at hb1)
                  replace HSb := Lib.hid (HSb.out.at hb1)
                  replace HX := Lib.hid (HX.out.at hb1)
                  replace HY := Lib.hid (HY.out.at hb1)
                  replace c0 := (hb1.cell (p := ⟨b1, o1 + k3, none⟩) l1).trans c0
                  replace d0 := (hb1.cell (p := ⟨b1, o1 + q, none⟩) l1).trans d0
                  replace l1 := Nat.lt_of_lt_of_le l1 hb1.size
                  have Hb1 := Lib.hid (hb1)
                  clear hb1
                  go_wp2_with fail
                  refine (DropP_spec (HSb.out.at Seq.way) (HY.out.at Seq.way) hRb.out).mono ?_
                  rintro e y2 ⟨v2, rfl, hb2, hs⟩
                  rw [g2]
                  clear g2
                  replace hs := hs.any
                  obtain ⟨a4, c4, rfl⟩ := hs.shape
                  have HR2 := Lib.hid hs
                  clear hs
                  replace hb2 := below_step hb2 (Seq.way : Below y1.heap.size y1 _)
                  replace HSa := Lib.hid (HSa.out.at hb2)
                  replace HSb := Lib.hid (HSb.out.at hb2)
                  replace HR1 := Lib.hid (HR1.out.at hb2)
                  replace HX := Lib.hid (HX.out.at hb2)
                  replace HY := Lib.hid (HY.out.at hb2)
                  replace c0 := (hb2.cell (p := ⟨b1, o1 + k3, none⟩) l1).trans c0
                  replace d0 := (hb2.cell (p := ⟨b1, o1 + q, none⟩) l1).trans d0
                  replace l1 := Nat.lt_of_lt_of_le l1 hb2.size
                  have Hb2 := Lib.hid (below_step hb2 Hb1.out)
                  clear hb2
                  go_wp2_with fail
                  refine (HasP_spec (HSa.out.at Seq.way) (HX.out.at Seq.way) hRa.out.sort hRa.out.len).mono ?_
                  rintro e y3 ⟨rfl, hb3⟩
                  rw [hfx, hhx, Bool.true_and]
                  replace hb3 := below_step hb3 (Seq.way : Below y2.heap.size y2 _)
                  replace HSa := Lib.hid (HSa.out.at hb3)
                  replace HSb := Lib.hid (HSb.out.at hb3)
                  replace HR1 := Lib.hid (HR1.out.at hb3)
                  replace HR2 := Lib.hid (HR2.out.at hb3)
                  replace HX := Lib.hid (HX.out.at hb3)
                  replace HY := Lib.hid (HY.out.at hb3)
                  replace c0 := (hb3.cell (p := ⟨b1, o1 + k3, none⟩) l1).trans c0
                  replace d0 := (hb3.cell (p := ⟨b1, o1 + q, none⟩) l1).trans d0
                  replace l1 := Nat.lt_of_lt_of_le l1 hb3.size
                  have Hb3 := Lib.hid (below_step hb3 Hb2.out)
                  clear hb3
                  go_wp2_with fail
                  refine (HasP_spec (HSb.out.at Seq.way) (HY.out.at Seq.way) hRb.out.sort hRb.out.len).mono ?_
                  rintro e y4 ⟨rfl, hb4⟩
                  rw [hfy, hhy, Bool.true_and]
                  replace hb4 := below_step hb4 (Seq.way : Below y3.heap.size y3 _)
                  replace HSa := Lib.hid (HSa.out.at hb4)
                  replace HSb := Lib.hid (HSb.out.at hb4)
                  replace HR1 := Lib.hid (HR1.out.at hb4)
                  replace HR2 := Lib.hid (HR2.out.at hb4)
                  replace c0 := (hb4.cell (p := ⟨b1, o1 + k3, none⟩) l1).trans c0
                  replace d0 := (hb4.cell (p := ⟨b1, o1 + q, none⟩) l1).trans d0
                  replace l1 := Nat.lt_of_lt_of_le l1 hb4.size
                  have Hb4 := Lib.hid (below_step hb4 Hb3.out)
                  clear hb4
                  go_wp2_with fail
                  go_roundw
                  case rel => exact ⟨k3 + 1, dropO a x, b, hlt, by go_num, HA', HB', HR1, HSb, Lib.hid (below_step Hb4.out hbz.out)⟩
                  case measure => simp [intOf]; omega
              · obtain ⟨f1, f2, f3⟩ := droppedM_no hA.out hx0 hfx hxa
                have HA' := Lib.hid f1
                have hhx := decide_eq_false hxa
                clear f1 f3 hx0 hxa
                by_cases hyb : y ∈ b
                · obtain ⟨g1, g2⟩ := droppedM_yes hBb.out hy0 hfy hyb
                  have HB' := Lib.hid g1
                  have hhy := decide_eq_true hyb
                  clear g1 hy0 hyb
                  go_wp2_with fail
                  refine (DropP_spec (HSa.out.at Seq.way) (HX.out.at Seq.way) hRa.out).mono ?_
                  rintro e y1 ⟨v1, rfl, hb1, hs⟩
                  rw [f2]
                  clear f2
                  replace hs := hs.any
                  obtain ⟨a3, c3, rfl⟩ := hs.shape
                  have HR1 := Lib.hid hs
                  clear hs
                  replace hb1 := below_step hb1 (Seq.way : Below wr.heap.size wr _)
                  replace HSa := Lib.hid (HSa.out.at hb1)
                  replace HSb := Lib.hid (HSb.out.at hb1)
                  replace HX := Lib.hid (HX.out.at hb1)
                  replace HY := Lib.hid (HY.out.at hb1)
                  replace c0 := (hb1.cell (p := ⟨b1, o1 + k3, none⟩) l1).trans c0
                  replace d0 := (hb1.cell (p := ⟨b1, o1 + q, none⟩) l1).trans d0
                  replace l1 := Nat.lt_of_lt_of_le l1 hb1.size
                  have Hb1 := Lib.hid (hb1)
                  clear hb1
                  go_wp2_with fail
                  refine (DropP_spec (HSb.out.at Seq.way) (HY.out.at Seq.way) hRb.out).mono ?_
                  rintro e y2 ⟨v2, rfl, hb2, hs⟩
                  rw [g2]
                  clear g2
                  replace hs := hs.any
                  obtain ⟨a4, c4, rfl⟩ := hs.shape
                  have HR2 := Lib.hid hs
                  clear hs
                  replace hb2 := below_step hb2 (Seq.way : Below y1.heap.size y1 _)
                  replace HSa := Lib.hid (HSa.out.at hb2)
                  replace HSb := Lib.hid (HSb.out.at hb2)
                  replace HR1 := Lib.hid (HR1.out.at hb2)
                  replace HX := Lib.hid (HX.out.at hb2)
                  replace HY := Lib.hid (HY.out.at hb2)
                  replace c0 := (hb2.cell (p := ⟨b1, o1 + k3, none⟩) l1).trans c0
                  replace d0 := (hb2.cell (p := ⟨b1, o1 + q, none⟩) l1).trans d0
                  replace l1 := Nat.lt_of_lt_of_le l1 hb2.size
                  have Hb2 := Lib.hid (below_step hb2 Hb1.out)
                  clear hb2
                  go_wp2_with fail
                  refine (HasP_spec (HSa.out.at Seq.way) (HX.out.at Seq.way) hRa.out.sort hRa.out.len).mono ?_
                  rintro e y3 ⟨rfl, hb3⟩
                  rw [hfx, hhx, Bool.true_and]
                  replace hb3 := below_step hb3 (Seq.way : Below y2.heap.size y2 _)
                  replace HSa := Lib.hid (HSa.out.at hb3)
                  replace HSb := Lib.hid (HSb.out.at hb3)
                  replace HR1 := Lib.hid (HR1.out.at hb3)
                  replace HR2 := Lib.hid (HR2.out.at hb3)
                  replace HX := Lib.hid (HX.out.at hb3)
                  replace HY := Lib.hid (HY.out.at hb3)
                  replace c0 := (hb3.cell (p := ⟨b1, o1 + k3, none⟩) l1).trans c0
                  replace d0 := (hb3.cell (p := ⟨b1, o1 + q, none⟩) l1).trans d0
                  replace l1 := Nat.lt_of_lt_of_le l1 hb3.size
                  have Hb3 := Lib.hid (below_step hb3 Hb2.out)
                  clear hb3
                  go_wp2_with fail
                  refine (HasP_spec (HSb.out.at Seq.way) (HY.out.at Seq.way) hRb.out.sort hRb.out.len).mono ?_
                  rintro e y4 ⟨rfl, hb4⟩
                  rw [hfy, hhy, Bool.true_and]
                  replace hb4 := below_step hb4 (Seq.way : Below y3.heap.size y3 _)
                  replace HSa := Lib.hid (HSa.out.at hb4)
                  replace HSb := Lib.hid (HSb.out.at hb4)
                  replace HR1 := Lib.hid (HR1.out.at hb4)
                  replace HR2 := Lib.hid (HR2.out.at hb4)
                  replace c0 := (hb4.cell (p := ⟨b1, o1 + k3, none⟩) l1).trans c0
                  replace d0 := (hb4.cell (p := ⟨b1, o1 + q, none⟩) l1).trans d0
                  replace l1 := Nat.lt_of_lt_of_le l1 hb4.size
                  have Hb4 := Lib.hid (below_step hb4 Hb3.out)
                  clear hb4
                  go_wp2_with fail
                  go_roundw
                  case rel => exact ⟨k3 + 1, a, dropO b y, hlt, by go_num, HA', HB', HSa, HR2, Lib.hid (below_step Hb4.out hbz.out)⟩
                  case measure => simp [intOf]; omega
                · obtain ⟨g1, g2, g3⟩ := droppedM_no hBb.out hy0 hfy hyb
                  have HB' := Lib.hid g1
                  have hhy := decide_eq_false hyb
                  clear g1 g3 hy0 hyb
                  go_wp2_with fail
                  refine (DropP_spec (HSa.out.at Seq.way) (HX.out.at Seq.way) hRa.out).mono ?_
                  rintro e y1 ⟨v1, rfl, hb1, hs⟩
                  rw [f2]
                  clear f2
                  replace hs := hs.any
                  obtain ⟨a3, c3, rfl⟩ := hs.shape
                  have HR1 := Lib.hid hs
                  clear hs
                  replace hb1 := below_step hb1 (Seq.way : Below wr.heap.size wr _)
                  replace HSa := Lib.hid (HSa.out.at hb1)
                  replace HSb := Lib.hid (HSb.out.at hb1)
                  replace HX := Lib.hid (HX.out.at hb1)
                  replace HY := Lib.hid (HY.out.at hb1)
                  replace c0 := (hb1.cell (p := ⟨b1, o1 + k3, none⟩) l1).trans c0
                  replace d0 := (hb1.cell (p := ⟨b1, o1 + q, none⟩) l1).trans d0
                  replace l1 := Nat.lt_of_lt_of_le l1 hb1.size
                  have Hb1 := Lib.hid (hb1)
                  clear hb1
                  go_wp2_with fail
                  refine (DropP_spec (HSb.out.at Seq.way) (HY.out.at Seq.way) hRb.out).mono ?_
                  rintro e y2 ⟨v2, rfl, hb2, hs⟩
                  rw [g2]
                  clear g2
                  replace hs := hs.any
                  obtain ⟨a4, c4, rfl⟩ := hs.shape
                  have HR2 := Lib.hid hs
                  clear hs
                  replace hb2 := below_step hb2 (Seq.way : Below y1.heap.size y1 _)
                  replace HSa := Lib.hid (HSa.out.at hb2)
                  replace HSb := Lib.hid (HSb.out.at hb2)
                  replace HR1 := Lib.hid (HR1.out.at hb2)
                  replace HX := Lib.hid (HX.out.at hb2)
                  replace HY := Lib.hid (HY.out.at hb2)
                  replace c0 := (hb2.cell (p := ⟨b1, o1 + k3, none⟩) l1).trans c0
                  replace d0 := (hb2.cell (p := ⟨b1, o1 + q, none⟩) l1).trans d0
                  replace l1 := Nat.lt_of_lt_of_le l1 hb2.size
                  have Hb2 := Lib.hid (below_step hb2 Hb1.out)
                  clear hb2
                  go_wp2_with fail
                  refine (HasP_spec (HSa.out.at Seq.way) (HX.out.at Seq.way) hRa.out.sort hRa.out.len).mono ?_
                  rintro e y3 ⟨rfl, hb3⟩
                  rw [hfx, hhx, Bool.true_and]
                  replace hb3 := below_step hb3 (Seq.way : Below y2.heap.size y2 _)
                  replace HSa := Lib.hid (HSa.out.at hb3)
                  replace HSb := Lib.hid (HSb.out.at hb3)
                  replace HR1 := Lib.hid (HR1.out.at hb3)
                  replace HR2 := Lib.hid (HR2.out.at hb3)
                  replace HX := Lib.hid (HX.out.at hb3)
                  replace HY := Lib.hid (HY.out.at hb3)
                  replace c0 := (hb3.cell (p := ⟨b1, o1 + k3, none⟩) l1).trans c0
                  replace d0 := (hb3.cell (p := ⟨b1, o1 + q, none⟩) l1).trans d0
                  replace l1 := Nat.lt_of_lt_of_le l1 hb3.size
                  have Hb3 := Lib.hid (below_step hb3 Hb2.out)
                  clear hb3
                  go_wp2_with fail
                  refine (HasP_spec (HSb.out.at Seq.way) (HY.out.at Seq.way) hRb.out.sort hRb.out.len).mono ?_
                  rintro e y4 ⟨rfl, hb4⟩
                  rw [hfy, hhy, Bool.true_and]
                  replace hb4 := below_step hb4 (Seq.way : Below y3.heap.size y3 _)
                  replace HSa := Lib.hid (HSa.out.at hb4)
                  replace HSb := Lib.hid (HSb.out.at hb4)
                  replace HR1 := Lib.hid (HR1.out.at hb4)
                  replace HR2 := Lib.hid (HR2.out.at hb4)
                  replace c0 := (hb4.cell (p := ⟨b1, o1 + k3, none⟩) l1).trans c0
                  replace d0 := (hb4.cell (p := ⟨b1, o1 + q, none⟩) l1).trans d0
                  replace l1 := Nat.lt_of_lt_of_le l1 hb4.size
                  have Hb4 := Lib.hid (below_step hb4 Hb3.out)
                  clear hb4
                  go_wp2_with fail
                  go_roundw
                  case rel => exact ⟨k3 + 1, a, b, hlt, by go_num, HA', HB', HSa, HSb, Lib.hid (below_step Hb4.out hbz.out)⟩
                  case measure => simp [intOf]; omega
            · obtain rfl : k3 = kk := by omega
              have hab := Lib.hid (dropped_same hA.out hBb.out)
              have HB5 := Lib.hid (below_step hbz.out HB4.out)
              clear hlt hA hBb hfM hbz
              go_wp2_with fail
              refine (SameR12_spec (HSa.out.at Seq.way) (HSb.out.at Seq.way)).mono ?_
              rintro e w6 ⟨rfl, hq6⟩
              have hb6 := Lib.hid (below_step (below_step hq6.belowS Seq.way) HB5.out)
              rw [decide_eq_true hab.out]
              clear hq6 hab
              go_wp2_with fail
              go_ret
              exact ⟨rfl, hb6.out⟩
end Go.Proofs.Ytceipnlpofebmaa
