/-
  Layer 12: the walk of FactsFull.
-/
import Derived.Test.YtceipnlpofebmaaMtX
namespace Go.Proofs.Ytceipnlpofebmaa
open Go Go.RowKit

set_option maxHeartbeats 16000000 in
set_option maxRecDepth 100000 in
theorem full_spec (hH : ∀ w, Calls Try.prog 5 #[] w (RetV (.bool true) w)) {w : World} {from_ at_ : Nat} (hfrom : from_ < 65536) (hat : at_ < 65536) :
    Calls Try.prog 4 #[.int .u16 from_, .int .u16 at_] w (RetV (.bool true) w) := by
  have HB0 := Lib.hid (Below.refl w.heap.size w)
  obtain ⟨k, hk⟩ : ∃ k, k = at_ % 512 := ⟨_, rfl⟩
  have hk5 : k < 512 := by omega
  have b5 : bits .and .i64 (at_ : Int) 511 = (k : Int) := by rw [i64_and511]; omega
  have hf0 : (0 : Int) ≤ (from_ : Int) := by omega
  have hf1 : (from_ : Int) ≤ 65535 := by omega
  clear hk
  go_enter Try.func4, Try.ntmps4
  go_wp2_with fail
  refine (hH _).mono ?_
  rintro e w1 ⟨rfl, hb⟩
  replace hb := below_step hb (Seq.way : Below w.heap.size w _)
  have HB1 := Lib.hid (below_step hb HB0.out)
  clear hb
  go_wp2_with fail
  go_loopw [6, 7] (fun o i wr => ∃ m : Nat, m ≤ 512 ∧ i = .int .i64 m ∧ Hid (Own (seqE cellE) (fun _ => True) w1.heap.size 24 wr o (numsL from_ m)) ∧ Hid (Below w1.heap.size w1 wr)) (fun _ i _ => 512 - (intOf i).toNat)
  case atStart => exact ⟨0, Nat.zero_le _, rfl, Lib.hid (Own.lit0 rfl (Nat.le_refl _) rfl), Lib.hid Seq.way⟩
  case round =>
    obtain ⟨m, hm, rfl, hO, hbr⟩ := hrel
    have hzr := hbr.out.size
    by_cases hlt : m < 512
    · have hlI : (m : Int) < 512 := by omega
      have hz1 : IntOK ((from_ : Int) + (m : Int)) := ⟨by omega, by omega⟩
      have hst := Lib.hid (numsL_succ from_ m)
      have hln := numsL_len from_ m
      have HC := Lib.hid (show Seq cellE (fun _ => True) (wr.alloc (.cells #[.int .i64 2, .string ⟨#[]⟩, .int .i64 ((from_ : Int) + (m : Int))] 35)) (.slice (some ⟨wr.heap.size, 0, none⟩) 1 1) [⟨2, ⟨#[]⟩, (from_ : Int) + (m : Int)⟩] from
        seq_cells (T := 35) (Row.new wr [_, _, _] _ rfl) (by simp only [List.mem_singleton, forall_eq]; exact ⟨⟨by show _ ≤ (2 : Int); decide, by show (2 : Int) ≤ _; decide⟩, hz1, by show (⟨#[]⟩ : ByteArray).size ≤ _; decide⟩) rfl (by simp))
      go_wp2_with fail
      refine (p_spec HC.out (by simp) (by decide)).mono ?_
      rintro e y1 ⟨v1, rfl, hb1, hs1⟩
      replace hs1 : Seq cellE _ y1 v1 (numT ((from_ : Int) + (m : Int))) := hs1
      replace hb1 := below_step hb1 (Seq.way : Below wr.heap.size wr _)
      obtain ⟨ya, yc, rfl⟩ := hs1.shape
      have HY := Lib.hid (show Seq cellE (fun b => wr.heap.size ≤ b) y1 (.slice ya (numT ((from_ : Int) + (m : Int))).length yc) (numT ((from_ : Int) + (m : Int))) from hs1.mono (fun b h _ => by simp at h; omega) fun _ _ _ => rfl)
      have Hb1 := Lib.hid hb1
      have zb1 := hb1.size
      clear hs1 hb1 HC
      obtain ⟨X, hX⟩ : ∃ X, X = numT ((from_ : Int) + (m : Int)) := ⟨_, rfl⟩
      rw [← hX] at HY hst ⊢
      clear hX
      go_wp2_with (at_builtin; go_loud (refine wpList_app_seq (E := cellE) (S := fun _ => True) (base := w1.heap.size) (wm := wr) (y := X) rfl _ _ 22 rfl Try.underlying22 infoSeq12 rfl hO.out rfl (below_step Seq.way Hb1.out) (HY.out.at Seq.way) (fun b h _ => ⟨trivial, .inr h⟩) (by go_simp) (by omega) hzr ?_))
      intro ao2 cap2 w5 hown2 hk5'
      have H2 := Lib.hid hown2
      have K2 := Lib.hid (hbr.out.trans (Below.trans (Below.mono (below_step Seq.way Hb1.out) hzr) hk5'.below))
      clear hown2 hk5'
      go_wp2_with fail
      go_roundw
      case rel => exact ⟨m + 1, by omega, by go_num, Lib.hid (by rw [hst.out]; simpa using H2.out), K2⟩
      case measure => simp [intOf]; omega
    · obtain rfl : m = 512 := by omega
      have HL := Lib.hid (hO.out.seq (T := fun _ => True) (by rw [numsL_len]; omega) fun _ _ _ => trivial)
      have hLl := numsL_len from_ 512
      have hyk := numsL_get from_ (n := 512) (k := k) (by omega)
      have hM := Lib.hid (full_all hf0 hf1 hk5)
      obtain ⟨la, lc, rfl⟩ := HL.out.shape
      obtain ⟨L, hL⟩ : ∃ L, L = numsL from_ 512 := ⟨_, rfl⟩
      simp only [← hL] at HL hLl hyk hM ⊢
      obtain ⟨Y, hY⟩ : ∃ Y, Y = numT ((from_ : Int) + (k : Int)) := ⟨_, rfl⟩
      rw [← hY] at hyk hM
      obtain ⟨_, _, ee, -, -, -, -, x5⟩ := HL.out
      simp only [Value.slice.injEq, true_and] at ee
      obtain ⟨rfl, rfl⟩ := ee
      obtain ⟨b1, o1, p1, n1, rfl, -, l1, c0, hX⟩ := x5.seq (k := k) (by omega)
      rw [hyk] at c0 hX
      have HY := Lib.hid hX
      have HB4 := Lib.hid (below_step hbr.out HB1.out)
      have hkI : (k : Int) < (L.length : Int) := by omega
      have hk0 : (0 : Int) ≤ (k : Int) := by omega
      have hLI : (L.length : Int) = 512 := by omega
      have hlL := Lib.hid hLl
      have HLI := Lib.hid hLI
      clear hO hlt hyk hX x5 hL hY hLl hLI hbr hzr
      have HC := Lib.hid (show Seq cellE (fun _ => True) (wr.alloc (.cells #[.int .i64 2, .string ⟨#[]⟩, .int .i64 (-1)] 35)) (.slice (some ⟨wr.heap.size, 0, none⟩) 1 1) [⟨2, ⟨#[]⟩, -1⟩] from
        seq_cells (T := 35) (Row.new wr [_, _, _] _ rfl) (by simp only [List.mem_singleton, forall_eq]; exact ⟨⟨by show _ ≤ (2 : Int); decide, by show (2 : Int) ≤ _; decide⟩, ⟨by show _ ≤ (-1 : Int); decide, by show (-1 : Int) ≤ _; decide⟩, by show (⟨#[]⟩ : ByteArray).size ≤ _; decide⟩) rfl (by simp))
      go_wp2_with fail
      refine (p_spec HC.out (by simp) (by decide)).mono ?_
      rintro e w5 ⟨v5, rfl, hb, hs⟩
      replace hs : Seq cellE _ w5 v5 (numT (-1)) := hs
      replace hs := hs.any
      obtain ⟨a5, c5, rfl⟩ := hs.shape
      replace hb := below_step hb (Seq.way : Below wr.heap.size wr _)
      replace HL := Lib.hid (HL.out.at hb)
      replace HY := Lib.hid (HY.out.at hb)
      replace c0 := (hb.cell (p := ⟨b1, o1 + k, none⟩) l1).trans c0
      replace l1 := Nat.lt_of_lt_of_le l1 hb.size
      have HB5 := Lib.hid (below_step hb HB4.out)
      have HX := Lib.hid hs
      clear hb hs HC
      go_wp2_with fail
      refine (AddP_spec (HL.out.at Seq.way) (HX.out.at Seq.way) hM.out.row).mono ?_
      rintro e w6 ⟨v6, rfl, hb, hs⟩
      replace hs := hs.any
      obtain ⟨a6, c6, rfl⟩ := hs.shape
      replace hb := below_step hb (Seq.way : Below w5.heap.size w5 _)
      replace HL := Lib.hid (HL.out.at hb)
      replace HY := Lib.hid (HY.out.at hb)
      replace HX := Lib.hid (HX.out.at hb)
      replace c0 := (hb.cell (p := ⟨b1, o1 + k, none⟩) l1).trans c0
      replace l1 := Nat.lt_of_lt_of_le l1 hb.size
      have HB6 := Lib.hid (below_step hb HB5.out)
      clear hb
      have HA1 := Lib.hid hs
      clear hs
      rw [hM.out.big.1, hM.out.big.2]
      rw [hM.out.big.2] at HA1
      go_wp2_with fail
      refine (AddP_spec (HL.out.at Seq.way) (HY.out.at Seq.way) hM.out.row).mono ?_
      rintro e w7 ⟨v7, rfl, hb, hs⟩
      replace hs := hs.any
      obtain ⟨a7, c7, rfl⟩ := hs.shape
      replace hb := below_step hb (Seq.way : Below w6.heap.size w6 _)
      replace HL := Lib.hid (HL.out.at hb)
      replace HY := Lib.hid (HY.out.at hb)
      replace HX := Lib.hid (HX.out.at hb)
      replace HA1 := Lib.hid (HA1.out.at hb)
      replace c0 := (hb.cell (p := ⟨b1, o1 + k, none⟩) l1).trans c0
      replace l1 := Nat.lt_of_lt_of_le l1 hb.size
      have HB7 := Lib.hid (below_step hb HB6.out)
      clear hb
      have HA2 := Lib.hid hs
      clear hs
      rw [hM.out.same.1, hM.out.same.2]
      rw [hM.out.same.2] at HA2
      go_wp2_with fail
      refine (DropP_spec (HL.out.at Seq.way) (HY.out.at Seq.way) hM.out.row).mono ?_
      rintro e w8 ⟨v8, rfl, hb, hs⟩
      replace hs := hs.any
      obtain ⟨a8, c8, rfl⟩ := hs.shape
      replace hb := below_step hb (Seq.way : Below w7.heap.size w7 _)
      replace HL := Lib.hid (HL.out.at hb)
      replace HY := Lib.hid (HY.out.at hb)
      replace HX := Lib.hid (HX.out.at hb)
      replace HA1 := Lib.hid (HA1.out.at hb)
      replace HA2 := Lib.hid (HA2.out.at hb)
      replace c0 := (hb.cell (p := ⟨b1, o1 + k, none⟩) l1).trans c0
      replace l1 := Nat.lt_of_lt_of_le l1 hb.size
      have HB8 := Lib.hid (below_step hb HB7.out)
      clear hb
      have HD := Lib.hid hs
      clear hs
      rw [hM.out.drop.1]
      have hdl := hM.out.drop.2.1
      have hdr := Lib.hid hM.out.drop.2.2
      have hbk := Lib.hid hM.out.back
      obtain ⟨D, hD⟩ : ∃ D, D = dropO L Y := ⟨_, rfl⟩
      rw [← hD] at HD hdl hdr hbk ⊢
      have Hdl := Lib.hid hdl
      clear hD hdl
      go_wp2_with fail
      refine (AddP_spec (HD.out.at Seq.way) (HY.out.at Seq.way) hdr.out).mono ?_
      rintro e w9 ⟨v9, rfl, hb, hs⟩
      replace hs := hs.any
      obtain ⟨a9, c9, rfl⟩ := hs.shape
      replace hb := below_step hb (Seq.way : Below w8.heap.size w8 _)
      replace HL := Lib.hid (HL.out.at hb)
      replace HY := Lib.hid (HY.out.at hb)
      replace HX := Lib.hid (HX.out.at hb)
      replace HA1 := Lib.hid (HA1.out.at hb)
      replace HA2 := Lib.hid (HA2.out.at hb)
      replace HD := Lib.hid (HD.out.at hb)
      replace c0 := (hb.cell (p := ⟨b1, o1 + k, none⟩) l1).trans c0
      replace l1 := Nat.lt_of_lt_of_le l1 hb.size
      have HB9 := Lib.hid (below_step hb HB8.out)
      clear hb
      have HA3 := Lib.hid hs
      clear hs
      rw [hbk.out.1, hbk.out.2]
      rw [hbk.out.2] at HA3
      go_wp2_with fail
      refine (RightP12_spec (HL.out.at Seq.way)).mono ?_
      rintro e w10 ⟨rfl, hb⟩
      rw [hM.out.right]
      replace hb := below_step hb (Seq.way : Below w9.heap.size w9 _)
      replace HL := Lib.hid (HL.out.at hb)
      replace HY := Lib.hid (HY.out.at hb)
      replace HX := Lib.hid (HX.out.at hb)
      replace HA1 := Lib.hid (HA1.out.at hb)
      replace HA2 := Lib.hid (HA2.out.at hb)
      replace HD := Lib.hid (HD.out.at hb)
      replace HA3 := Lib.hid (HA3.out.at hb)
      replace c0 := (hb.cell (p := ⟨b1, o1 + k, none⟩) l1).trans c0
      replace l1 := Nat.lt_of_lt_of_le l1 hb.size
      have HB10 := Lib.hid (below_step hb HB9.out)
      clear hb
      have hI1 : ((L.length : Int) == 512) = true := by rw [HLI.out]; rfl
      have hI2 : ((D.length : Int) == 511) = true := by rw [Hdl.out]; rfl
      go_wp2_with fail
      refine (SameR12_spec (HA3.out.at Seq.way) (HL.out.at Seq.way)).mono ?_
      rintro e w11 ⟨rfl, hq⟩
      have hb := hq.belowS
      clear hq
      rw [decide_eq_true rfl]
      replace hb := below_step hb (Seq.way : Below w10.heap.size w10 _)
      replace HL := Lib.hid (HL.out.at hb)
      replace HY := Lib.hid (HY.out.at hb)
      replace HX := Lib.hid (HX.out.at hb)
      replace HA1 := Lib.hid (HA1.out.at hb)
      replace HA2 := Lib.hid (HA2.out.at hb)
      replace HD := Lib.hid (HD.out.at hb)
      replace HA3 := Lib.hid (HA3.out.at hb)
      replace c0 := (hb.cell (p := ⟨b1, o1 + k, none⟩) l1).trans c0
      replace l1 := Nat.lt_of_lt_of_le l1 hb.size
      have HB11 := Lib.hid (below_step hb HB10.out)
      clear hb
      go_wp2_with fail
      go_ret
      exact ⟨rfl, HB11.out⟩
end Go.Proofs.Ytceipnlpofebmaa
