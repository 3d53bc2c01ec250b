/-
  Layer 17's reference: the walk of Model.
-/
import Derived.Test.YtdbennmbbmoflaaRmB
import Derived.Test.YtdbennmbbmoflaaPrR
import Derived.Deep.LoopGhost
namespace Go.Proofs.Ytdbennmbbmoflaa
open Go Go.RowKit

set_option maxHeartbeats 4000000 in
set_option maxRecDepth 100000 in
theorem Model_spec {S : Nat → Prop} {w : World} {v : Value} {g : Prog} (hg : ProgV S w v g) (hgood : GoodP g) :
    Calls Try.prog 23 #[v] w (Ret (fun o w' => Seq intE (fun b => w.heap.size ≤ b) w' o (modelL g)) w) := by
  have HG := Lib.hid hg
  obtain ⟨aa, ac, ra, rc, rfl⟩ := hg.shape
  have hnlen := hgood.alen
  obtain ⟨n, hn⟩ : ∃ n, n = g.atoms.length := ⟨_, rfl⟩
  have Hn := Lib.hid hn
  rw [← hn] at hnlen HG ⊢
  clear hn hg
  obtain ⟨W0, hW0⟩ : ∃ W0, W0 = w.alloc (.cells #[.slice aa n ac, .slice ra g.rules.length rc] 30) := ⟨_, rfl⟩
  have HW := Lib.hid hW0
  have hB0 : Below w.heap.size w W0 := by rw [hW0]; exact Seq.way
  have hs0 := Lib.hid (show W0.heap.size = w.heap.size + 1 by rw [hW0]; simp)
  have c0 : W0.cell? ⟨w.heap.size, 0, none⟩ = some (.slice aa n ac) := by rw [hW0]; go_simp
  have c1 : W0.cell? ⟨w.heap.size, 1, none⟩ = some (.slice ra g.rules.length rc) := by rw [hW0]; go_simp
  have l0 : w.heap.size < W0.heap.size := by rw [hs0.out]; omega
  clear hW0
  have hmk := run_make_row' (P := Try.prog) 52 4 (.bool false) 1 Try.underlying52 infoBool rfl .i64 .i64 n (by omega) (by omega)
  go_enter Try.func23, Try.ntmps23
  go_wp2_with fail
  go_loopw [4] (fun i wr => ∃ (k : Nat) (outs : List Bool), k ≤ n ∧ i = .int .i64 k ∧ outs.length = n ∧ Hid (∀ j, j < k → outs[j]? = some true) ∧ RowB 4 wr (w.heap.size + 1) outs ∧ Below (w.heap.size + 1) W0 wr) (fun i _ => n - (intOf i).toNat)
  case atStart => exact ⟨0, List.replicate n false, Nat.zero_le _, rfl, by simp, Lib.hid (by simp), RowB.made _ _ _ (by simp), by rw [HW.out]; exact Seq.way⟩
  case round =>
    obtain ⟨k, outs, hk, rfl, hlen, hall, hrow, hbel⟩ := hrel
    have hsz : w.heap.size + 1 < wr.heap.size := hrow.lt
    by_cases hlt : k < n
    · have hko : k < outs.length := by omega
      have ho2 := hrow.cell hko
      have hof := hrow.frozen k
      have hkl : (k : Int) < (n : Int) := by omega
      have hk0 : (0 : Int) ≤ (k : Int) := by omega
      clear hmk
      go_wp2_with fail
      go_roundw
      case rel =>
        refine ⟨k + 1, outs.set k true, hlt, by go_num, by simpa using hlen, Lib.hid fun j hj => ?_, hrow.set _ _, hbel.setCell (Nat.le_refl _) _⟩
        rw [List.getElem?_set]
        by_cases hjk : k = j
        · subst hjk; simp [hko]
        · rw [if_neg hjk]; exact hall.out j (by omega)
      case measure => simp [intOf]; omega
    · obtain rfl : k = n := by omega
      have hrep : outs = List.replicate k true := by
        refine List.ext_getElem? fun j => ?_
        rcases Nat.lt_or_ge j k with h | h
        · rw [hall.out j h, List.getElem?_replicate, if_pos h]
        · rw [List.getElem?_eq_none (by omega), List.getElem?_eq_none (by simp; omega)]
      subst hrep
      have hb0 : Below w.heap.size w wr := hB0.trans (hbel.mono (by omega))
      have d0 := (hbel.cell (p := ⟨w.heap.size, 0, none⟩) (by simp)).trans c0
      have d1 := (hbel.cell (p := ⟨w.heap.size, 1, none⟩) (by simp)).trans c1
      have l1 : w.heap.size < wr.heap.size := by omega
      have hup := Lib.hid (hrow.seq (S := fun _ => True) (n := k) (cap := k) (by simp) (Nat.le_refl _) (by simp only [maxLen]; omega) (by simp; omega) trivial)
      have hleast := Lib.hid (Least_spec (HG.out.at hb0) hgood hup.out)
      clear hrow hall hmk c0 c1 hlen
      go_wp2_with fail
      refine hleast.out.mono ?_
      rintro e w1 ⟨vl, rfl, hb1, hlow⟩
      have hb01 : Below w.heap.size w w1 := hb0.trans (hb1.mono hb0.size)
      have e0 := (hb1.cell (p := ⟨w.heap.size, 0, none⟩) l1).trans d0
      have e1 := (hb1.cell (p := ⟨w.heap.size, 1, none⟩) l1).trans d1
      have l2 : w.heap.size < w1.heap.size := Nat.lt_of_lt_of_le l1 hb1.size
      have hst : leastL g (List.replicate k true) = startL g := by unfold startL; rw [← Hn.out]
      have H1 := LowI.start hgood
      rw [hst] at hlow
      have Hlow := Lib.hid (hlow.mono (T := fun b => w.heap.size ≤ b) (fun b (h : wr.heap.size ≤ b) _ => Nat.le_trans hb0.size h) fun _ _ _ => rfl)
      have HB01 := Lib.hid hb01
      have HI := Lib.hid H1
      clear hlow hb1 d0 d1 hleast hup hb0 hbel hst H1
      go_wp2_with fail
      go_loopg [3, 5, 6] (k + 3) (fun q up low nx wr => ∃ lw, Seq boolE (fun b => w.heap.size ≤ b) wr low lw ∧ Below w1.heap.size w1 wr ∧ Hid (LowI g lw) ∧ lw.count false + 2 ≤ q ∧ Hid (∀ f, lw.count false < f → lowGo f g lw = lowL g))
      case atStart =>
        have hc := List.count_le_length (a := false) (l := startL g)
        have hl := HI.out.len
        refine ⟨startL g, Hlow.out, Below.refl _ _, HI, by have := Hn.out; omega, Lib.hid fun f hf => ?_⟩
        unfold lowL
        exact lowGo_more g hgood _ _ _ HI.out.len HI.out.sub hf (by omega)
      case round =>
        clear Hlow HI
        obtain ⟨lw, hlow, hbel, hLI, hq, hfin⟩ := hrel
        have hbw := HB01.out.trans (hbel.mono HB01.out.size)
        have f0 := (hbel.cell (p := ⟨w.heap.size, 0, none⟩) l2).trans e0
        have f1 := (hbel.cell (p := ⟨w.heap.size, 1, none⟩) l2).trans e1
        have l3 : w.heap.size < wr.heap.size := Nat.lt_of_lt_of_le l2 hbel.size
        have hl1 := Lib.hid (Least_spec (HG.out.at hbw) hgood hlow)
        have Hlow := Lib.hid hlow
        have HBw := Lib.hid hbw
        have HBel := Lib.hid hbel
        clear hlow hbel hbw
        go_wp2_with fail
        refine hl1.out.mono ?_
        rintro e w2 ⟨vu, rfl, hb2, hup⟩
        have f2 := (hb2.cell (p := ⟨w.heap.size, 0, none⟩) l3).trans f0
        have f3 := (hb2.cell (p := ⟨w.heap.size, 1, none⟩) l3).trans f1
        have l4 : w.heap.size < w2.heap.size := Nat.lt_of_lt_of_le l3 hb2.size
        have hbw2 := HBw.out.trans (hb2.mono HBw.out.size)
        have hl2 := Lib.hid (Least_spec (HG.out.at hbw2) hgood hup)
        have Hup := Lib.hid (hup.mono (T := fun b => w.heap.size ≤ b) (fun b (h : wr.heap.size ≤ b) _ => Nat.le_trans HBw.out.size h) fun _ _ _ => rfl)
        have Hlow2 := Lib.hid (Hlow.out.at hb2)
        have HBw2 := Lib.hid hbw2
        have HBel2 := Lib.hid (HBel.out.trans (hb2.mono HBel.out.size))
        clear hup hb2 hbw2 f0 f1 hl1 Hlow
        go_wp2_with fail
        refine hl2.out.mono ?_
        rintro e w3 ⟨vn, rfl, hb3, hnx⟩
        have hbl := Lib.hid (Bools_spec hnx (Hlow2.out.at hb3) ((least_len _ _).trans hLI.out.len.symm))
        have Hnx := Lib.hid (hnx.mono (T := fun b => w.heap.size ≤ b) (fun b (h : w2.heap.size ≤ b) _ => Nat.le_trans HBw2.out.size h) fun _ _ _ => rfl)
        have Hup3 := Lib.hid (Hup.out.at hb3)
        have Hlow3 := Lib.hid (Hlow2.out.at hb3)
        have HBw3 := Lib.hid (HBw2.out.trans (hb3.mono HBw2.out.size))
        have HBel3 := Lib.hid (HBel2.out.trans (hb3.mono HBel2.out.size))
        clear hnx hb3 f2 f3 hl2 Hlow2 Hup
        go_wp2_with fail
        refine hbl.out.mono ?_
        rintro e w4 ⟨rfl, hdr⟩
        have hb4 : Below w3.heap.size w3 w4 := by obtain ⟨m, rfl⟩ := hdr; exact below_drewN (Below.refl _ _) m
        have HBw4 := Lib.hid (HBw3.out.trans (hb4.mono HBw3.out.size))
        have HBel4 := Lib.hid (HBel3.out.trans (hb4.mono HBel3.out.size))
        have Hnx4 := Lib.hid (Hnx.out.at hb4)
        have Hup4 := Lib.hid (Hup3.out.at hb4)
        have Hlow4 := Lib.hid (Hlow3.out.at hb4)
        clear hdr hb4 Hnx Hup3 Hlow3 hbl
        by_cases he : nextL g lw = lw
        · have hd : decide (leastL g (leastL g lw) = lw) = true := decide_eq_true he
          rw [hd]
          have hlw : lowL g = lw := by
            rw [← hfin.out (lw.count false + 1) (by omega)]
            unfold lowGo
            rw [if_pos he]
          have Hm := Lib.hid (show modelL g = stateTo lw (leastL g lw) k by unfold modelL; rw [hlw, ← Hn.out])
          clear hd he hlw hfin
          have hll : lw.length = k := by rw [hLI.out.len, ← Hn.out]
          obtain ⟨up, hup⟩ : ∃ up, up = leastL g lw := ⟨_, rfl⟩
          have hlu : up.length = k := by rw [hup, least_len, ← Hn.out]
          rw [← hup] at Hup4 Hm
          clear hup
          obtain ⟨la, lc, rfl, -, -, -, -, hl5⟩ := Hlow4.out
          obtain ⟨ua, uc, rfl, -, -, -, -, hu5⟩ := Hup4.out
          rw [hll, hlu]
          clear e0 e1 l2 l3 l4 HB01
          go_wp2_with fail
          go_loopw [7, 8] (fun o i wr => ∃ j : Nat, j ≤ k ∧ i = .int .i64 j ∧ Own intE (fun _ => False) w4.heap.size 3 wr o (stateTo lw up j) ∧ Below w4.heap.size w4 wr) (fun _ i _ => k - (intOf i).toNat)
          case atStart => exact ⟨0, Nat.zero_le _, rfl, Own.lit0 rfl (Nat.le_refl _) rfl, Seq.way⟩
          case round =>
            obtain ⟨j, hj, rfl, hown, hbel⟩ := hrel
            have hsz := hbel.size
            have hlen2 := stateTo_len lw up j
            have hlen3 : (stateTo lw up j).length ≤ 1000000000000 := by omega
            clear hlen2
            by_cases hlt : j < k
            · obtain ⟨lb, lo, rfl, -, hlb, hlc⟩ := hl5.bool (k := j) (by omega)
              obtain ⟨ub, uo, rfl, -, hub, huc⟩ := hu5.bool (k := j) (by omega)
              have hlc2 := (hbel.cell (p := ⟨lb, lo + j, none⟩) hlb).trans hlc
              have huc2 := (hbel.cell (p := ⟨ub, uo + j, none⟩) hub).trans huc
              have hlbr : lb < wr.heap.size := by omega
              have hubr : ub < wr.heap.size := by omega
              have hjk : (j : Int) < (k : Int) := by omega
              have hj0 : (0 : Int) ≤ (j : Int) := by omega
              have hsn := Lib.hid (stateTo_succ lw up j)
              have hgl : lw.getD j false = lw[j]'(by omega) := by rw [List.getD_eq_getElem?_getD, List.getElem?_eq_getElem (by omega)]; rfl
              have hgu : up.getD j false = up[j]'(by omega) := by rw [List.getD_eq_getElem?_getD, List.getElem?_eq_getElem (by omega)]; rfl
              clear hl5 hu5 hlc huc
              cases hx : lw[j]'(by omega)
              · rw [hx] at hlc2 hgl
                cases hy : up[j]'(by omega)
                · rw [hy] at huc2 hgu
                  have hsv := Lib.hid (show stateOf lw up j = 0 by unfold stateOf; rw [hgl, hgu]; rfl)
                  clear hx hy hgl hgu
                  go_wp2_with (at_builtin; refine wpList_app_int rfl (.tmp 52) (.tmp 54) 24 rfl Try.underlying24 infoInt rfl hown rfl (y := 0) Seq.way ?_ ?_ ?_ ?_ ?_)
                  any_goals (first | exact ⟨by omega, by omega⟩ | omega | (go_simp; done))
                  intro ao cap w' hown' hkept
                  have hb5 := hbel.trans ((Seq.way : Below w4.heap.size wr _).trans hkept.below)
                  clear hkept
                  go_wp2_with fail
                  go_roundw
                  case rel => exact ⟨j + 1, hlt, by go_num, by rw [hsn.out, hsv.out]; exact hown', hb5⟩
                  case measure => simp [intOf]; omega
                · rw [hy] at huc2 hgu
                  have hsv := Lib.hid (show stateOf lw up j = 1 by unfold stateOf; rw [hgl, hgu]; rfl)
                  clear hx hy hgl hgu
                  go_wp2_with (at_builtin; refine wpList_app_int rfl (.tmp 52) (.tmp 54) 24 rfl Try.underlying24 infoInt rfl hown rfl (y := 1) Seq.way ?_ ?_ ?_ ?_ ?_)
                  any_goals (first | exact ⟨by omega, by omega⟩ | omega | (go_simp; done))
                  intro ao cap w' hown' hkept
                  have hb5 := hbel.trans ((Seq.way : Below w4.heap.size wr _).trans hkept.below)
                  clear hkept
                  go_wp2_with fail
                  go_roundw
                  case rel => exact ⟨j + 1, hlt, by go_num, by rw [hsn.out, hsv.out]; exact hown', hb5⟩
                  case measure => simp [intOf]; omega
              · rw [hx] at hlc2 hgl
                have hsv := Lib.hid (show stateOf lw up j = 2 by unfold stateOf; rw [hgl]; rfl)
                clear hx hgl hgu
                go_wp2_with (at_builtin; refine wpList_app_int rfl (.tmp 52) (.tmp 54) 24 rfl Try.underlying24 infoInt rfl hown rfl (y := 2) Seq.way ?_ ?_ ?_ ?_ ?_)
                any_goals (first | exact ⟨by omega, by omega⟩ | omega | (go_simp; done))
                intro ao cap w' hown' hkept
                have hb5 := hbel.trans ((Seq.way : Below w4.heap.size wr _).trans hkept.below)
                clear hkept
                go_wp2_with fail
                go_roundw
                case rel => exact ⟨j + 1, hlt, by go_num, by rw [hsn.out, hsv.out]; exact hown', hb5⟩
                case measure => simp [intOf]; omega
            · obtain rfl : j = k := by omega
              have hlt' : ¬ ((j : Int) < (j : Int)) := by omega
              have hres := Lib.hid (hown.seq (by omega) (T := fun b => w.heap.size ≤ b) fun b _ h => h.elim (fun h => h.elim) fun h => Nat.le_trans HBw4.out.size h)
              have hbf := Lib.hid (HBw4.out.trans (hbel.mono HBw4.out.size))
              clear hown hl5 hu5
              go_wp2_with fail
              go_ret
              refine ⟨_, rfl, hbf.out, ?_⟩
              rw [Hm.out]
              exact hres.out
        · have hd : decide (leastL g (leastL g lw) = lw) = false := decide_eq_false he
          rw [hd]
          have hlt2 := count_lt (hLI.out.len.trans (next_len g lw).symm) hLI.out.sub (fun e => he e.symm)
          have Hlt := Lib.hid hlt2
          have Hfin2 := Lib.hid (fun f (hf : (nextL g lw).count false < f) => show lowGo f g (nextL g lw) = lowL g by
            rw [← hfin.out (f + lw.count false + 1) (by omega)]
            rw [show lowGo (f + lw.count false + 1) g lw = lowGo (f + lw.count false) g (nextL g lw) by
              conv => lhs; unfold lowGo
              rw [if_neg he]]
            exact lowGo_more g hgood _ _ _ (next_len g lw) (hLI.out.next hgood).sub hf (by omega))
          have Hq := Lib.hid hq
          clear hd he hfin hlt2 hq
          go_wp2_with fail
          go_roundg (gk - 1)
          case measure => have := Hq.out; omega
          case rel => exact ⟨nextL g lw, Hnx4.out, HBel4.out, Lib.hid (hLI.out.next hgood), by have := Hq.out; have := Hlt.out; omega, Hfin2⟩
end Go.Proofs.Ytdbennmbbmoflaa
