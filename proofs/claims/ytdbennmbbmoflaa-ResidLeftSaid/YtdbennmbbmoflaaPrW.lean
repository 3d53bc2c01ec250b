/-
  Layer 18: the walk of ResidLeft.
-/
import Derived.Test.YtdbennmbbmoflaaPrU
import Derived.Test.YtdbennmbbmoflaaPrV
import Derived.Test.YtdbennmbbmoflaaResR
namespace Go.Proofs.Ytdbennmbbmoflaa
open Go Go.RowKit

/-- An atom's truth, as a row of numbers has it. -/
theorem truth_cell {S : Nat → Prop} {w : World} {v : Value} {E : Prog} (h : Seq intE S w v (truthL E)) {x : Int} (h0 : 0 ≤ x) (h1 : x < E.atoms.length) : ∃ b off c, v = .slice (some ⟨b, off, none⟩) (truthL E).length c ∧ b < w.heap.size ∧ w.cell? ⟨b, off + x.toNat, none⟩ = some (.int .i64 (truthOf E x)) := by
  have hlen : (truthL E).length = E.atoms.length := truthTo_len _ _
  obtain ⟨ao, c, rfl, -, -, -, -, hs⟩ := h
  have hx : x.toNat < (truthL E).length := by omega
  obtain ⟨b, off, rfl, -, hb, hc, -⟩ := hs.int hx
  refine ⟨b, off, c, rfl, hb, hc.trans ?_⟩
  have he : (truthL E)[x.toNat] = truthOf E ((x.toNat : Nat) : Int) := by simp [truthL, truthTo]
  rw [he, show ((x.toNat : Nat) : Int) = x by omega]

set_option maxHeartbeats 8000000 in
set_option maxRecDepth 100000 in
theorem left_walk {w : World} {v0 : Value} {l : List Rule} {n : Nat} (hl : Seq ruleE (fun b => b < w.heap.size) w v0 l) (hn : n < 256) :
    Calls Try.prog 7 #[v0, .int .u8 n] w (RetV (.bool true) w) := by
  have Hl := Lib.hid hl
  obtain ⟨la, lc, rfl, -⟩ := hl
  go_enter Try.func7, Try.ntmps7
  go_wp2_with fail
  refine (head_of doIs (w := w)).mono ?_
  rintro e w1 ⟨rfl, hb1⟩
  have z1 := hb1.size
  go_wp2_with fail
  refine (Made_spec (Hl.out.at hb1) hn).mono ?_
  rintro e w2 ⟨vg, rfl, hb2, hg⟩
  have hB2 : Below w.heap.size w w2 := hb1.trans (hb2.mono z1)
  obtain ⟨ga, gac, gra, grc, rfl⟩ := hg.shape
  obtain ⟨g, hgm⟩ : ∃ g, g = madeL l n := ⟨_, rfl⟩
  have hfine : FineP g := by rw [hgm]; exact madeL_fine l n
  have hal : 1 ≤ g.atoms.length ∧ g.atoms.length ≤ 12 := by rw [hgm]; exact madeL_atoms l n
  rw [← hgm] at hg ⊢
  clear hgm
  have Hg := Lib.hid hg.any
  have HB2 := Lib.hid hB2
  clear hg hb1 hb2 hB2 z1
  go_wp2_with fail
  refine (ReduceP_spec (Hg.out.at Seq.way) hfine (Seq.nil intE (fun _ => True) _)).mono ?_
  rintro e w3 ⟨ve, rfl, hb3, hE⟩
  have R6 := Lib.hid (rowTo (Row.new w2 _ _ rfl) hb3)
  have hb23 := below_step hb3 (Seq.way : Below w2.heap.size w2 _)
  have HB3 := Lib.hid (HB2.out.trans (hb23.mono HB2.out.size))
  have Hg3 := Lib.hid (Hg.out.at hb23)
  obtain ⟨ea, eac, era, erc, rfl⟩ := hE.shape
  have hEf : FineP (reduceL g []) := reduceL_fine hfine
  have hEc : canL (reduceL g []) = [] := reduce_end g []
  have hEa : (reduceL g []).atoms = g.atoms := reduce_atoms hfine []
  obtain ⟨E, hEE⟩ : ∃ E, E = reduceL g [] := ⟨_, rfl⟩
  rw [← hEE] at hE hEf hEc hEa ⊢
  clear hEE
  have HE := Lib.hid hE.any
  have HEc := Lib.hid hEc
  have HEa := Lib.hid hEa
  clear hE hb3 hb23 hEc hEa Hg HB2
  go_wp2_with fail
  refine (TruthP_spec (HE.out.at Seq.way) hEf).mono ?_
  rintro e w4 ⟨vm, rfl, hb4, hm⟩
  have R7 := Lib.hid (rowTo (Row.new w3 _ _ rfl) hb4)
  have hb34 := below_step hb4 (Seq.way : Below w3.heap.size w3 _)
  have R6' := Lib.hid (rowTo R6.out hb34)
  have HB4 := Lib.hid (HB3.out.trans (hb34.mono HB3.out.size))
  have HE4 := Lib.hid (HE.out.at hb34)
  have Hg4 := Lib.hid (Hg3.out.at hb34)
  have Hm := Lib.hid (hm.mono (T := fun _ => True) (fun _ _ _ => trivial) fun _ _ _ => rfl)
  clear hb4 hb34 hm R6 HE Hg3 HB3
  generalize w2.heap.size = B6 at R6' ⊢
  generalize w3.heap.size = B7 at R7 ⊢
  obtain ⟨ma, mc, rfl, -⟩ := id Hm.out
  have hmlen : (truthL E).length = g.atoms.length := by unfold truthL; rw [truthTo_len, HEa.out]
  have c60 := R6'.out.cell (j := 0) (by simp)
  have c70 := R7.out.cell (j := 0) (by simp)
  have c71 := R7.out.cell (j := 1) (by simp)
  simp only [List.getElem_cons_zero, List.getElem_cons_succ] at c60 c70 c71
  have l6 := R6'.out.lt
  have l7 := R7.out.lt
  obtain ⟨N, hN⟩ : ∃ N, N = (truthL E).length := ⟨_, rfl⟩
  have HN := Lib.hid hN
  rw [← hN] at hmlen ⊢
  have hne : ((N : Int) != (g.atoms.length : Int)) = false := by simp [hmlen]
  have Hmlen := Lib.hid hmlen
  have HNE := Lib.hid (show (N : Int) = (E.atoms.length : Int) by rw [HEa.out, hmlen])
  have hErs := hEf.rsm
  clear hN hmlen
  go_wp2_with fail
  go_loopw [9, 10] (fun vL i wr => ∃ k : Nat, k ≤ E.rules.length ∧ i = .int .i64 k ∧ Own ruleE (fun b => b < w4.heap.size) w4.heap.size 46 wr vL (leftF E (E.rules.take k)) ∧ Below w4.heap.size w4 wr) (fun _ i _ => E.rules.length - (intOf i).toNat)
  case atStart => exact ⟨0, Nat.zero_le _, rfl, Own.lit0 rfl (Nat.le_refl _) rfl, Seq.way⟩
  case round =>
    obtain ⟨k, hk, rfl, hown, hbel⟩ := hrel
    have hsz := hbel.size
    have d60 := (hbel.cell (p := ⟨B6, 0, none⟩) l6).trans c60
    have d71 := (hbel.cell (p := ⟨B7, 1, none⟩) l7).trans c71
    have l6' : B6 < wr.heap.size := by omega
    have l7' : B7 < wr.heap.size := by omega
    have Hmr := Lib.hid (Hm.out.at hbel)
    have HEr := Lib.hid (HE4.out.at hbel)
    by_cases hlt : k < E.rules.length
    · obtain ⟨_, _, hag, -, hsr⟩ := HE4.out.mono (T := fun b => b < w4.heap.size) (w' := w4) (fun _ _ hl => hl) fun _ _ _ => rfl
      simp only [Value.agg.injEq, Array.mk.injEq, List.cons.injEq, and_true] at hag
      obtain ⟨rfl, rfl⟩ := hag
      have hsr2 := hsr.at hbel
      obtain ⟨_, _, ee, -, -, -, -, hs⟩ := hsr2
      simp only [Value.slice.injEq] at ee
      obtain ⟨rfl, -, rfl⟩ := ee
      obtain ⟨b, off, pa, pc, na, nc, rfl, hbl, hb, r0, r1, r2, hok, hp, hn'⟩ := hs.rule hlt
      have hgd := hEf.rules _ (List.getElem_mem hlt)
      have hlu := left_undef hEf.toGoodP HEc.out (List.getElem_mem hlt)
      have hkl : (k : Int) < (E.rules.length : Int) := by omega
      have hk0 : (0 : Int) ≤ (k : Int) := by omega
      have HN' := HN.out
      have hh0 := hgd.head.1
      have hh1 : E.rules[k].head < (N : Int) := by rw [HNE.out]; exact hgd.head.2
      obtain ⟨mb, mo, mc', hmv, hmb, hmc⟩ := truth_cell Hmr.out hgd.head.1 hgd.head.2
      simp only [Value.slice.injEq] at hmv
      obtain ⟨rfl, -, rfl⟩ := hmv
      have Hp := Lib.hid hp
      have Hn := Lib.hid hn'
      have HU := Lib.hid hlu
      have Hgd := Lib.hid hgd
      clear hs hsr hp hn' hlu hgd HN'
      by_cases he : truthOf E E.rules[k].head = 2
      · have hst := Lib.hid (leftF_no hlt he)
        rw [he] at hmc
        clear he
        go_wp2_with fail
        go_roundw
        case rel => exact ⟨k + 1, hlt, by go_num, by rw [hst.out]; exact hown.move Seq.way, Seq.way⟩
        case measure => simp [intOf]; omega
      · have he1 := HU.out.2.2 he
        have hst := Lib.hid (leftF_yes hlt he)
        rw [he1] at hmc
        clear he he1
        go_wp2_with fail
        go_loop [12] (fun i => ∃ j : Nat, j ≤ E.rules[k].pos.length ∧ i = .int .i64 j) (fun i => E.rules[k].pos.length - (intOf i).toNat)
        case atStart => exact ⟨0, Nat.zero_le _, rfl⟩
        case round =>
          obtain ⟨j, hj, rfl⟩ := hrel
          by_cases hjl : j < E.rules[k].pos.length
          · obtain ⟨_, _, ev, -, -, hjb, -, hs⟩ := Hp.out
            simp only [Value.slice.injEq] at ev
            obtain ⟨rfl, -, rfl⟩ := ev
            obtain ⟨xb, xo, rfl, -, hxb, hxc, -⟩ := hs.int hjl
            have hxg := Hgd.out.pos _ (List.getElem_mem hjl)
            obtain ⟨mb2, mo2, mc2, hmv, hmb2, hmc2⟩ := truth_cell Hmr.out hxg.1 hxg.2
            simp only [Value.slice.injEq, Option.some.injEq, Addr.mk.injEq, and_true] at hmv
            obtain ⟨⟨rfl, rfl⟩, -, rfl⟩ := hmv
            rw [HU.out.1 _ (List.getElem_mem hjl)] at hmc2
            have hx0 := hxg.1
            have hx1 : E.rules[k].pos[j] < (N : Int) := by rw [HNE.out]; exact hxg.2
            have hjk : (j : Int) < (E.rules[k].pos.length : Int) := by omega
            have hj0 : (0 : Int) ≤ (j : Int) := by omega
            clear hs hxg
            go_wp2_with fail
            go_round
            case rel => exact ⟨j + 1, hjl, by go_num⟩
            case measure => simp [intOf]; omega
          · obtain rfl : j = E.rules[k].pos.length := by omega
            have hjx : ¬ ((E.rules[k].pos.length : Int) < (E.rules[k].pos.length : Int)) := by omega
            go_wp2_with fail
            go_loop [13] (fun i => ∃ j : Nat, j ≤ E.rules[k].neg.length ∧ i = .int .i64 j) (fun i => E.rules[k].neg.length - (intOf i).toNat)
            case atStart => exact ⟨0, Nat.zero_le _, rfl⟩
            case round =>
              obtain ⟨j, hj, rfl⟩ := hrel
              by_cases hjl : j < E.rules[k].neg.length
              · obtain ⟨_, _, ev, -, -, hjb, -, hs⟩ := Hn.out
                simp only [Value.slice.injEq] at ev
                obtain ⟨rfl, -, rfl⟩ := ev
                obtain ⟨xb, xo, rfl, -, hxb, hxc, -⟩ := hs.int hjl
                have hxg := Hgd.out.neg _ (List.getElem_mem hjl)
                obtain ⟨mb2, mo2, mc2, hmv, hmb2, hmc2⟩ := truth_cell Hmr.out hxg.1 hxg.2
                simp only [Value.slice.injEq, Option.some.injEq, Addr.mk.injEq, and_true] at hmv
                obtain ⟨⟨rfl, rfl⟩, -, rfl⟩ := hmv
                rw [HU.out.2.1 _ (List.getElem_mem hjl)] at hmc2
                have hx0 := hxg.1
                have hx1 : E.rules[k].neg[j] < (N : Int) := by rw [HNE.out]; exact hxg.2
                have hjk : (j : Int) < (E.rules[k].neg.length : Int) := by omega
                have hj0 : (0 : Int) ≤ (j : Int) := by omega
                clear hs hxg
                go_wp2_with fail
                go_round
                case rel => exact ⟨j + 1, hjl, by go_num⟩
                case measure => simp [intOf]; omega
              · obtain rfl : j = E.rules[k].neg.length := by omega
                have hjx : ¬ ((E.rules[k].neg.length : Int) < (E.rules[k].neg.length : Int)) := by omega
                have hll : (leftF E (E.rules.take k)).length ≤ 1000000 := by
                  have h1 := leftF_len E (E.rules.take k)
                  rw [List.length_take] at h1
                  omega
                go_wp2_with (at_builtin; refine wpList_app_rule (S := fun b => b < w4.heap.size) (Sy := fun b => b < w4.heap.size) (base := w4.heap.size) (y := E.rules[k]) rfl (.tmp 87) (.tmp 89) 22 rfl Try.underlying22 infoRule rfl hown rfl Seq.way hok (Hp.out.at Seq.way) (Hn.out.at Seq.way) (fun b h _ => ⟨h, .inl h⟩) ?_ ?_ ?_ ?_ ?_ ?_)
                any_goals (first | omega | (go_simp; done))
                intro ao cap w7 hown7 hk7
                have hb7 := Lib.hid (hbel.trans ((Seq.way : Below w4.heap.size wr _).trans hk7.below))
                clear hk7 hown
                go_wp2_with fail
                go_roundw
                case rel => exact ⟨k + 1, hlt, by go_num, by rw [hst.out]; exact hown7, hb7.out⟩
                case measure => simp [intOf]; omega
    · obtain rfl : k = E.rules.length := by omega
      rw [List.take_length] at hown
      have hkx : ¬ ((E.rules.length : Int) < (E.rules.length : Int)) := by omega
      have hP : GoodP ⟨E.atoms, leftF E E.rules⟩ := left_good hEf.toGoodP
      obtain ⟨P, hPP⟩ : ∃ P : Prog, P = ⟨E.atoms, leftF E E.rules⟩ := ⟨_, rfl⟩
      have hat : ∃ va, Value.agg #[.slice ga g.atoms.length gac, .slice gra g.rules.length grc] = .agg #[va, .slice gra g.rules.length grc] ∧ Seq (seqE cellE) (fun _ => True) wr va g.atoms := by
        obtain ⟨_, _, hag, hat, -⟩ := Hg4.out.at hbel
        simp only [Value.agg.injEq, Array.mk.injEq, List.cons.injEq, and_true] at hag
        obtain ⟨rfl, rfl⟩ := hag
        exact ⟨_, rfl, hat⟩
      obtain ⟨va, hva, hat⟩ := hat
      simp only [Value.agg.injEq, Array.mk.injEq, List.cons.injEq, and_true] at hva
      subst hva
      have hll : (leftF E E.rules).length ≤ 1000000 := by
        have h1 := leftF_len E E.rules
        omega
      have hls := hown.seq (by omega) (T := fun _ => True) fun _ _ _ => trivial
      have hPV := Lib.hid (progP (P := P) hat hls (by rw [hPP, HEa.out]))
      have hMod := Lib.hid (Model_spec hPV.out (by rw [hPP]; exact hP))
      obtain ⟨va', vb', hsl⟩ : ∃ a c, u9 = .slice a (leftF E E.rules).length c := by obtain ⟨a, c, h, -⟩ := hls; exact ⟨a, c, h⟩
      have hlaw := Lib.hid (fun (a : Nat) ha hu => left_law (a := a) hEf.toGoodP HEc.out ha hu)
      rw [← hPP] at hlaw
      have hPlen : (modelL P).length = E.atoms.length := by unfold modelL; rw [stateTo_len, hPP]
      have HPlen := Lib.hid hPlen
      subst hsl
      have HB := Lib.hid (HB4.out.trans (hbel.mono HB4.out.size))
      clear hls hat hP hPP hown hPlen
      go_wp2_with fail
      refine hMod.out.mono ?_
      rintro e w8 ⟨vM, rfl, hb8, hM⟩
      have HM := Lib.hid hM
      obtain ⟨Ma, Mc, rfl, -⟩ := hM
      have Hm8 := Lib.hid (Hmr.out.at hb8)
      have HB8 := Lib.hid (HB.out.trans (hb8.mono HB.out.size))
      rw [HPlen.out]
      clear hb8 Hmr
      go_wp2_with fail
      go_loop [15] (fun i => ∃ a : Nat, a ≤ N ∧ i = .int .i64 a) (fun i => N - (intOf i).toNat)
      case atStart => exact ⟨0, Nat.zero_le _, rfl⟩
      case round =>
        obtain ⟨a, ha, rfl⟩ := hrel
        have hN12 : N ≤ 12 := by rw [Hmlen.out]; exact hal.2
        by_cases hlta : a < N
        · have haE : a < E.atoms.length := by have := HNE.out; omega
          obtain ⟨mb2, mo2, mc2, hmv, hmb2, hmc2⟩ := truth_cell Hm8.out (x := (a : Int)) (by omega) (by omega)
          simp only [Value.slice.injEq] at hmv
          obtain ⟨rfl, -, rfl⟩ := hmv
          simp only [Int.toNat_natCast] at hmc2
          have hak : (a : Int) < (N : Int) := by omega
          have ha0 : (0 : Int) ≤ (a : Int) := by omega
          by_cases hu : truthOf E (a : Int) = 1
          · have hl1 := hlaw.out a haE hu
            obtain ⟨hl2, hl3⟩ := List.getElem?_eq_some_iff.1 hl1
            obtain ⟨_, _, ev, -, -, -, -, hs⟩ := HM.out
            simp only [Value.slice.injEq] at ev
            obtain ⟨rfl, -, rfl⟩ := ev
            obtain ⟨xb, xo, rfl, -, hxb, hxc, -⟩ := hs.int hl2
            rw [hl3] at hxc
            rw [hu] at hmc2
            have hak2 : (a : Int) < (E.atoms.length : Int) := by omega
            clear hs hl1 hl2 hl3 hu
            go_wp2_with fail
            go_round
            case rel => exact ⟨a + 1, hlta, by go_num⟩
            case measure => simp [intOf]; omega
          · have hub : (truthOf E (a : Int) == 1) = false := by simpa using hu
            clear hu
            go_wp2_with fail
            go_round
            case rel => exact ⟨a + 1, hlta, by go_num⟩
            case measure => simp [intOf]; omega
        · obtain rfl : a = N := by omega
          have hax : ¬ ((a : Int) < (a : Int)) := by omega
          go_wp2_with fail
          refine bodyPost_ret (v := .bool true) (by simp [results, Try.results7, go_sem]) rfl ⟨rfl, HB8.out⟩
end Go.Proofs.Ytdbennmbbmoflaa
