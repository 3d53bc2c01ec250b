/-
  Layer 7: the walk of ProgLevels.
-/
import Derived.Test.YtadbdmnngmlnhaaPhCm
import Derived.Test.YtadbdmnngmlnhaaPhO
namespace Go.Proofs.Ytadbdmnngmlnhaa
open Go Go.RowKit

theorem rch_led {K : List Lnk} {a b : Nat} : Rch K a b ↔ a = b ∨ Led K a b := by
  constructor
  · intro h
    cases h with
    | refl => exact .inl rfl
    | @step j k hk hw => exact .inr ⟨k, hk, rfl, hw⟩
  · rintro (rfl | ⟨k, hk, rfl, hw⟩)
    · exact .refl _
    · exact .step hk hw
/-- Is there a negation that goes round, among the first links? -/
def Rd (K : List Lnk) (i : Nat) (b : Bool) : Prop := b = true ↔ ∃ x ∈ K.take i, x.neg = true ∧ Rch K x.2 x.fr
theorem rd_zero (K : List Lnk) : Rd K 0 false := ⟨fun h => by simp at h, fun ⟨x, hx, _⟩ => by simp at hx⟩
theorem rd_succ {K : List Lnk} {i : Nat} {b c : Bool} (h : Rd K i b) (hi : i < K.length) (hc : c = true ↔ (K[i].neg = true ∧ Rch K K[i].2 K[i].fr)) : Rd K (i + 1) (b || c) := by
  unfold Rd at *
  rw [Bool.or_eq_true, h, hc]
  constructor
  · rintro (⟨x, hx, h2⟩ | h2)
    · exact ⟨x, by rw [List.take_succ_eq_append_getElem hi]; exact List.mem_append_left _ hx, h2⟩
    · exact ⟨K[i], by rw [List.take_succ_eq_append_getElem hi]; exact List.mem_append_right _ (List.mem_singleton.2 rfl), h2⟩
  · rintro ⟨x, hx, h2⟩
    rw [List.take_succ_eq_append_getElem hi] at hx
    rcases List.mem_append.1 hx with h3 | h3
    · exact .inl ⟨x, h3, h2⟩
    · rw [List.mem_singleton] at h3; subst h3; exact .inr h2
theorem rd_all {K : List Lnk} {b : Bool} (h : Rd K K.length b) : b = true ↔ Round K := by
  unfold Rd at h
  rw [List.take_length] at h
  exact h
theorem levT_round {K : List Lnk} {n : Nat} {is b : Bool} {m : List Nat} (h : LevT K n is m) (hb : b = true ↔ Round K) : b = !is := by
  rcases h with ⟨rfl, h⟩ | ⟨rfl, h, -⟩
  · cases b with
    | false => rfl
    | true => exact absurd (hb.1 rfl) (levM_not_round h)
  · rw [hb.2 h]; rfl
/-- What is asked for, by the first links. -/
def Ask (K : List Lnk) (a : List Nat) (n i : Nat) (s : List Bool) : Prop := s.length = n ∧ ∀ j, soB s j = true ↔ ∃ x ∈ K.take i, x.fr = j ∧ lv a x.fr = lv a x.2 + x.w
theorem ask_zero (K : List Lnk) (a : List Nat) (n : Nat) : Ask K a n 0 (List.replicate n false) := by
  refine ⟨by simp, fun j => ⟨fun h => ?_, ?_⟩⟩
  · have h0 : soB (List.replicate n false) j = false := by
      unfold soB
      rw [List.getD_eq_getElem?_getD, List.getElem?_replicate]
      split <;> rfl
    rw [h0] at h; cases h
  · rintro ⟨x, hx, _⟩
    simp at hx
theorem ask_yes {K : List Lnk} {a : List Nat} {n i : Nat} {s : List Bool} (h : Ask K a n i s) (hi : i < K.length) (hf : K[i].fr < n) (he : lv a K[i].fr = lv a K[i].2 + K[i].w) : Ask K a n (i + 1) (s.set K[i].fr true) := by
  refine ⟨by rw [List.length_set]; exact h.1, fun j => ?_⟩
  rw [soB_set (by rw [h.1]; exact hf), Bool.or_eq_true, decide_eq_true_eq, h.2 j]
  constructor
  · rintro (h2 | ⟨x, hx, h2⟩)
    · exact ⟨K[i], by rw [List.take_succ_eq_append_getElem hi]; exact List.mem_append_right _ (List.mem_singleton.2 rfl), h2, he⟩
    · exact ⟨x, by rw [List.take_succ_eq_append_getElem hi]; exact List.mem_append_left _ hx, h2⟩
  · rintro ⟨x, hx, h2⟩
    rw [List.take_succ_eq_append_getElem hi] at hx
    rcases List.mem_append.1 hx with h3 | h3
    · exact .inr ⟨x, h3, h2⟩
    · rw [List.mem_singleton] at h3; subst h3; exact .inl h2.1
theorem ask_no {K : List Lnk} {a : List Nat} {n i : Nat} {s : List Bool} (h : Ask K a n i s) (hi : i < K.length) (he : ¬ lv a K[i].fr = lv a K[i].2 + K[i].w) : Ask K a n (i + 1) s := by
  refine ⟨h.1, fun j => ?_⟩
  rw [h.2 j]
  constructor
  · rintro ⟨x, hx, h2⟩
    exact ⟨x, by rw [List.take_succ_eq_append_getElem hi]; exact List.mem_append_left _ hx, h2⟩
  · rintro ⟨x, hx, h2⟩
    rw [List.take_succ_eq_append_getElem hi] at hx
    rcases List.mem_append.1 hx with h3 | h3
    · exact ⟨x, h3, h2⟩
    · rw [List.mem_singleton] at h3; subst h3; exact absurd h2.2 he
theorem ask_end {K : List Lnk} {a : List Nat} {n : Nat} {s : List Bool} (h : Ask K a n K.length s) (hl : LevM K n a) {i : Nat} (hi : i < n) (h0 : 0 < lv a i) : soB s i = true := by
  obtain ⟨k, hk, h1, h2⟩ := levM_asked hl hi h0
  refine (h.2 i).2 ⟨k, by rw [List.take_length]; exact hk, h1, ?_⟩
  rw [h1]; exact h2
theorem links_len {m : List Cls} (h : ∀ c ∈ m, mayC c = true) (hm : m.length ≤ 80) : (linksL m).length ≤ 1000 := by
  have h1 := setL_le (c := cmpK) (allK m)
  have h2 := toK_len h (Nat.le_refl m.length)
  rw [show toK m m.length = allK m by unfold toK allK; rw [List.take_length]] at h2
  unfold linksL; omega
theorem lev_bound {K : List Lnk} {n : Nat} (hK : RngK K n) {a : List Nat} (h : LevM K n a) (i : Nat) : lv a i ≤ n := by
  by_cases hi : i < n
  · rcases Nat.lt_or_ge n (lv a i) with h1 | h1
    · exact absurd (levR_high hK ⟨h.1, h.2.2⟩ hi h1) (levM_not_round h)
    · exact h1
  · have h0 : lv a i = 0 := by unfold lv; rw [List.getD_eq_getElem?_getD, List.getElem?_eq_none (by have := h.1; omega)]; rfl
    omega

set_option maxHeartbeats 25600000 in
set_option maxRecDepth 100000 in
theorem levels_spec {S : Nat → Prop} {w : World} {v : Value} {l : List Cls} (hl : Seq clsE S w v l) : Calls Try.prog 9 #[v] w (RetV (.bool true) w) := by
  have HL := Lib.hid hl
  obtain ⟨aa, ac, rfl⟩ := hl.shape
  clear hl
  go_enter Try.func9, Try.ntmps9
  go_wp2_with fail
  refine head_spec.mono ?_
  rintro e w1 ⟨rfl, hb1⟩
  have B1 := Lib.hid hb1
  clear hb1
  go_wp2_with fail
  refine (GreatL_spec (HL.out.at B1.out)).mono ?_
  rintro e w2 ⟨rfl, hb2⟩
  have B2 := Lib.hid (below_step hb2 B1.out)
  clear hb2
  cases hg : greatC l with
  | true =>
    clear hg
    go_wp2_with fail
    go_ret
    exact ⟨rfl, B2.out⟩
  | false =>
    have hll := great_len hg
    clear hg
    go_wp2_with fail
    refine (MadeL_spec (HL.out.at B2.out) (by omega)).mono ?_
    rintro e w3 ⟨v3, rfl, hb3, hs3⟩
    obtain ⟨m, hm⟩ : ∃ m, m = madeL l := ⟨_, rfl⟩
    rw [← hm] at hs3
    obtain ⟨ma, mc, rfl⟩ := hs3.shape
    have HM := Lib.hid hs3.any
    have HMay := Lib.hid (show ∀ c ∈ m, mayC c = true by rw [hm]; exact made_may)
    have hmlen : m.length ≤ 70 := by rw [hm]; exact Nat.le_trans (made_len l) hll
    have B3 := Lib.hid (below_step hb3 B2.out)
    clear hs3 hb3 hm
    go_wp2_with fail
    refine (LinksP_spec HM.out HMay.out (by omega)).mono ?_
    rintro e w4 ⟨v4, rfl, hb4, hs4⟩
    have hkl := links_len HMay.out (by omega)
    have hpl := preds_len HMay.out (by omega)
    have Hr := Lib.hid (rngK_links (l := m))
    obtain ⟨ka, kc, rfl⟩ := hs4.shape
    have K4 := Lib.hid hs4.any
    have D4 := Lib.hid hb4
    obtain ⟨K, hKe⟩ : ∃ K, K = linksL m := ⟨_, rfl⟩
    rw [← hKe] at K4 hkl Hr ⊢
    have HKe := Lib.hid hKe
    clear hs4 hb4 hKe
    go_wp2_with fail
    refine (PredsP_spec (HM.out.at D4.out) HMay.out (by omega)).mono ?_
    rintro e w5 ⟨v5, rfl, hb5, hs5⟩
    obtain ⟨pa, pc, rfl⟩ := hs5.shape
    have D5 := Lib.hid (below_step hb5 D4.out)
    have K5 := Lib.hid (K4.out.at hb5)
    obtain ⟨n, hn⟩ : ∃ n, n = (predsL m).length := ⟨_, rfl⟩
    rw [← hn] at hpl Hr ⊢
    have Hne := Lib.hid hn
    clear hs5 hb5 hn K4 D4
    go_wp2_with fail
    go_loopw [8] (fun z wz => ∃ i : Nat, i ≤ K.length ∧ z = .int .i64 i ∧ w5 = wz) (fun z _ => K.length - (intOf z).toNat)
    case atStart => exact ⟨0, Nat.zero_le _, rfl, rfl⟩
    case round =>
      obtain ⟨i, hi, rfl, rfl⟩ := hrel
      by_cases hlt : i < K.length
      · obtain ⟨_, _, ee, -, -, -, -, y1⟩ := K5.out
        simp only [Value.slice.injEq, true_and] at ee
        obtain ⟨rfl, rfl⟩ := ee
        obtain ⟨b1, o1, rfl, -, l1, c0, c1, -, -, -⟩ := y1.lnk hlt
        obtain ⟨f1, f2⟩ := Hr.out _ (List.getElem_mem hlt)
        obtain ⟨x, hx⟩ : ∃ x, x = K[i] := ⟨_, rfl⟩
        rw [← hx] at c0 c1 f1 f2
        have hiI : (i : Int) < (K.length : Int) := by omega
        have hi0 : (0 : Int) ≤ (i : Int) := by omega
        have g1 : ((x.fr : Int) < 0) = False := eq_false (by omega)
        have g2 : ((n : Int) ≤ (x.fr : Int)) = False := eq_false (by omega)
        have g3 : ((x.2 : Int) < 0) = False := eq_false (by omega)
        have g4 : ((n : Int) ≤ (x.2 : Int)) = False := eq_false (by omega)
        have g5 : (n ≤ x.fr) = False := eq_false (by omega)
        have g6 : (n ≤ x.2) = False := eq_false (by omega)
        clear hx y1
        go_wp2_with fail
        go_roundw
        case rel => exact ⟨i + 1, hlt, by go_num, by first | rfl | trivial⟩
        case measure => simp [intOf]; omega
      · have hiI : ¬ (i : Int) < (K.length : Int) := by omega
        clear hlt
        go_wp2_with fail
        go_loopw [7, 9] (fun y z wz => ∃ (i : Nat) (b : Bool), i ≤ K.length ∧ z = .int .i64 i ∧ y = .bool b ∧ Hid (Rd K i b) ∧ Hid (Below w5.heap.size w5 wz)) (fun _ z _ => K.length - (intOf z).toNat)
        case atStart => exact ⟨0, false, Nat.zero_le _, rfl, rfl, Lib.hid (rd_zero K), Lib.hid (Below.refl _ _)⟩
        case round =>
          clear hiI
          obtain ⟨i, b, hi, rfl, rfl, hRd, hbz⟩ := hrel
          by_cases hlt : i < K.length
          · obtain ⟨_, _, ee, -, -, -, -, y1⟩ := K5.out
            simp only [Value.slice.injEq, true_and] at ee
            obtain ⟨rfl, rfl⟩ := ee
            obtain ⟨b1, o1, rfl, -, l1, c0, c1, c2, -, -⟩ := y1.lnk hlt
            replace c0 : wr.cell? ⟨b1, o1 + i * 3, none⟩ = _ := (hbz.out.cell (p := ⟨b1, o1 + i * 3, none⟩) l1).trans c0
            replace c1 : wr.cell? ⟨b1, o1 + i * 3 + 1, none⟩ = _ := (hbz.out.cell (p := ⟨b1, o1 + i * 3 + 1, none⟩) l1).trans c1
            replace c2 : wr.cell? ⟨b1, o1 + i * 3 + 2, none⟩ = _ := (hbz.out.cell (p := ⟨b1, o1 + i * 3 + 2, none⟩) l1).trans c2
            replace l1 := Nat.lt_of_lt_of_le l1 hbz.out.size
            obtain ⟨f1, f2⟩ := Hr.out _ (List.getElem_mem hlt)
            have hsc := Lib.hid (fun c (hc : c = true ↔ (K[i].neg = true ∧ Rch K K[i].2 K[i].fr)) => rd_succ hRd.out hlt hc)
            obtain ⟨x, hx⟩ : ∃ x, x = K[i] := ⟨_, rfl⟩
            rw [← hx] at c0 c1 c2 f1 f2
            simp only [← hx] at hsc
            have hled := Lib.hid (fun j => sweeps_led (K := K) (f := x.2) (n := n) (fun k hk => (Hr.out k hk).2) j)
            have hlen := Lib.hid (sweeps_len (K := K) (f := x.2) (n := n) (fun k hk => (Hr.out k hk).2) (s := List.replicate n false) (by simp) (n + 1))
            obtain ⟨G, hG⟩ : ∃ G, G = sweepsS K x.2 (n + 1) (List.replicate n false) := ⟨_, rfl⟩
            have hiI : (i : Int) < (K.length : Int) := by omega
            have hi0 : (0 : Int) ≤ (i : Int) := by omega
            clear hx y1
            go_wp2_with fail
            refine (leads_spec (f := x.2) (n := n) (K5.out.at hbz.out) Hr.out (by omega) (by omega)).mono ?_
            rw [← hG]
            rintro e x1 ⟨u1, rfl, hx1, hs1⟩
            rw [← hG] at hled hlen
            obtain ⟨ga, gc, rfl⟩ := hs1.shape
            have X1 := Lib.hid (below_step hx1 hbz.out)
            replace c0 : x1.cell? ⟨b1, o1 + i * 3, none⟩ = _ := (hx1.cell (p := ⟨b1, o1 + i * 3, none⟩) l1).trans c0
            replace c1 : x1.cell? ⟨b1, o1 + i * 3 + 1, none⟩ = _ := (hx1.cell (p := ⟨b1, o1 + i * 3 + 1, none⟩) l1).trans c1
            replace c2 : x1.cell? ⟨b1, o1 + i * 3 + 2, none⟩ = _ := (hx1.cell (p := ⟨b1, o1 + i * 3 + 2, none⟩) l1).trans c2
            have hGl : G.length = n := hlen.out
            rw [hGl] at hs1 ⊢
            obtain ⟨_, _, ee, -, -, -, -, y2⟩ := hs1
            simp only [Value.slice.injEq] at ee
            obtain ⟨rfl, -, rfl⟩ := ee
            obtain ⟨b2, o2, rfl, -, l2, d0⟩ := y2.bool (k := x.fr) (by rw [hGl]; exact f1)
            rw [← soB_get] at d0
            have hq := Lib.hid (show soB G x.fr = true ↔ Led K x.2 x.fr from hled.out x.fr)
            obtain ⟨q, hqe⟩ : ∃ q, q = soB G x.fr := ⟨_, rfl⟩
            rw [← hqe] at d0 hq
            have hfI : (x.fr : Int) < (n : Int) := by omega
            have hf0 : (0 : Int) ≤ (x.fr : Int) := by omega
            have hGn := Lib.hid hGl
            clear hx1 y2 hqe hled hlen hG hGl
            obtain ⟨ng, hng⟩ : ∃ y, y = x.neg := ⟨_, rfl⟩
            rw [← hng] at c2
            simp only [← hng] at hsc
            clear hng
            have hcc := Lib.hid (show ∀ e : Bool, (e = true ↔ x.2 = x.fr) → ((ng && (e || q)) = true ↔ (ng = true ∧ Rch K x.2 x.fr)) from fun e he => by
              rw [Bool.and_eq_true, Bool.or_eq_true, he, hq.out, rch_led])
            by_cases hef : x.2 = x.fr
            · have he1 : ((x.2 : Int) == (x.fr : Int)) = true := by simp; omega
              have hfin := Lib.hid (hsc.out _ (hcc.out true (by simp [hef])))
              have Hef := Lib.hid hef
              clear hef hsc hcc
              cases b <;> cases ng
              all_goals
                go_upto_region 17 with fail
                go_quiet (fail)
                go_wp2_with fail
                go_roundw
                case rel => exact ⟨i + 1, _, hlt, by go_num, rfl, by simpa using hfin, Lib.hid (below_drewN X1.out nq)⟩
                case measure => simp [intOf]; omega
            · have he1 : ((x.2 : Int) == (x.fr : Int)) = false := beq_eq_false_iff_ne.2 (by omega)
              have hfin := Lib.hid (hsc.out _ (hcc.out false (by simp [hef])))
              clear hef hsc hcc
              cases b <;> cases ng
              all_goals
                go_upto_region 17 with fail
                go_quiet (fail)
                go_wp2_with fail
                go_roundw
                case rel => exact ⟨i + 1, _, hlt, by go_num, rfl, by simpa using hfin, Lib.hid (below_drewN X1.out nq)⟩
                case measure => simp [intOf]; omega
          · have hall := Lib.hid (rd_all (K := K) (b := b) (by have := hRd.out; rwa [show i = K.length by omega] at this))
            have hiI : ¬ (i : Int) < (K.length : Int) := by omega
            clear hlt
            go_wp2_with fail
            refine (LevelsP_spec (HM.out.at (below_step hbz.out D5.out)) HMay.out (by omega)).mono ?_
            rw [← HKe.out, ← Hne.out]
            rintro e x2 ⟨r2, is, a, rfl, hx2, hlev, hs2⟩
            have hbi := Lib.hid (levT_round hlev hall.out)
            obtain ⟨aa2, ac2, rfl⟩ := hs2.shape
            have S2 := Lib.hid hs2.any
            have X2 := Lib.hid (below_step hx2 hbz.out)
            have Hlev := Lib.hid hlev
            clear hs2 hx2 hlev
            have hb2 := hbi.out
            subst hb2
            cases is with
            | false =>
              obtain ⟨hae, -⟩ := levT_none Hlev.out rfl
              have hal : (natsI a).length = 0 := by rw [hae]; rfl
              rw [hal] at S2 ⊢
              go_wp2_with fail
              go_ret
              exact ⟨rfl, below_step (below_step (below_step Seq.way X2.out) D5.out) B3.out⟩
            | true =>
              have hlm : LevM K n a := by
                rcases Hlev.out with ⟨-, h⟩ | ⟨h, -⟩
                · exact h
                · cases h
              have HLM := Lib.hid hlm
              have hal : (natsI a).length = n := by rw [natsI_len]; exact hlm.1
              rw [hal] at S2 ⊢
              have Hal := Lib.hid hal
              have hn0 : (0 : Int) ≤ (n : Int) := by omega
              have hmk := run_make_row' (P := Try.prog) 58 4 (.bool false) 1 Try.underlying58 infoBool rfl .i64 .i64 n (by omega) (by omega)
              clear hlm hal
              go_wp2_with fail
              clear hmk
              have hR0 := Lib.hid (RowB.made x2 n 4 rfl)
              have hbm := Lib.hid (Seq.way : Below x2.heap.size x2 (x2.alloc (.cells (madeCells #[.bool false] n) 4)))
              have X25 := Lib.hid X2.out
              have SA := Lib.hid S2.out
              clear X2 S2 hbi Hlev hRd hbz
              go_loopw [14] (fun z wz => ∃ (i : Nat) (s : List Bool), i ≤ K.length ∧ z = .int .i64 i ∧ Hid (Ask K a n i s) ∧ Hid (RowB 4 wz x2.heap.size s) ∧ Hid (Below x2.heap.size x2 wz)) (fun z _ => K.length - (intOf z).toNat)
              case atStart => exact ⟨0, _, Nat.zero_le _, rfl, Lib.hid (ask_zero K a n), hR0, hbm⟩
              case round =>
                clear hR0 hbm
                obtain ⟨i, s, hi, rfl, hA, hR, hbz⟩ := hrel
                obtain ⟨_, _, ee, -, -, -, -, y2⟩ := SA.out.at hbz.out
                simp only [Value.slice.injEq] at ee
                obtain ⟨rfl, -, rfl⟩ := ee
                have Y2 := Lib.hid y2
                clear y2
                by_cases hlt : i < K.length
                · obtain ⟨_, _, ee, -, -, -, -, y1⟩ := K5.out
                  simp only [Value.slice.injEq, true_and] at ee
                  obtain ⟨rfl, rfl⟩ := ee
                  obtain ⟨b1, o1, rfl, -, l1, c0, c1, c2, -, -⟩ := y1.lnk hlt
                  have hw5 := below_step hbz.out X25.out
                  replace c0 : wr.cell? ⟨b1, o1 + i * 3, none⟩ = _ := (hw5.cell (p := ⟨b1, o1 + i * 3, none⟩) l1).trans c0
                  replace c1 : wr.cell? ⟨b1, o1 + i * 3 + 1, none⟩ = _ := (hw5.cell (p := ⟨b1, o1 + i * 3 + 1, none⟩) l1).trans c1
                  replace c2 : wr.cell? ⟨b1, o1 + i * 3 + 2, none⟩ = _ := (hw5.cell (p := ⟨b1, o1 + i * 3 + 2, none⟩) l1).trans c2
                  obtain ⟨f1, f2⟩ := Hr.out _ (List.getElem_mem hlt)
                  have hay := Lib.hid (fun he => ask_yes hA.out hlt f1 he)
                  have han := Lib.hid (fun he => ask_no hA.out hlt he)
                  have hsol := HLM.out.2.1 _ (List.getElem_mem hlt)
                  obtain ⟨x, hx⟩ : ∃ x, x = K[i] := ⟨_, rfl⟩
                  rw [← hx] at c0 c1 c2 f1 f2 hsol
                  simp only [← hx] at hay han
                  have hal2 : (natsI a).length = n := Hal.out
                  have hal3 : a.length = n := HLM.out.1
                  obtain ⟨b2, o2, rfl, -, -, d0, -⟩ := Y2.out.int (k := x.fr) (by omega)
                  obtain ⟨_, _, ee, -, -, d1, -⟩ := Y2.out.int (k := x.2) (by omega)
                  simp only [Option.some.injEq, Addr.mk.injEq, and_true] at ee
                  obtain ⟨rfl, rfl⟩ := ee
                  rw [natsI_lv (by omega)] at d0 d1
                  have e1 := hR.out.cell (j := x.fr) (by rw [hA.out.1]; exact f1)
                  have e2 := hR.out.frozen x.fr
                  generalize s[x.fr]'(by rw [hA.out.1]; exact f1) = old at e1
                  have hset := Lib.hid (hR.out.set x.fr true)
                  have hbst := Lib.hid (show Below x2.heap.size x2 (wr.setCell ⟨x2.heap.size, x.fr, none⟩ (.bool true)) from hbz.out.setCell (Nat.le_refl _) _)
                  have hp1 := lev_bound Hr.out HLM.out x.fr
                  have hp2 := lev_bound Hr.out HLM.out x.2
                  obtain ⟨p, hp⟩ : ∃ p, p = lv a x.fr := ⟨_, rfl⟩
                  obtain ⟨r, hr⟩ : ∃ p, p = lv a x.2 := ⟨_, rfl⟩
                  rw [← hp] at d0 hsol hp1 hay han
                  rw [← hr] at d1 hsol hp2 hay han
                  have hiI : (i : Int) < (K.length : Int) := by omega
                  have hi0 : (0 : Int) ≤ (i : Int) := by omega
                  have hf1 : (x.fr : Int) < (n : Int) := by omega
                  have hf2 : (x.2 : Int) < (n : Int) := by omega
                  have hf3 : (0 : Int) ≤ (x.fr : Int) := by omega
                  have hf4 : (0 : Int) ≤ (x.2 : Int) := by omega
                  have hxw : x.w = if x.neg = true then 1 else 0 := rfl
                  clear hx y1 hp hr hal2 hal3 hw5
                  cases hng : x.neg with
                  | true =>
                    rw [hng] at c2 hxw
                    have hw1 : x.w = 1 := by simpa using hxw
                    rw [hw1] at hsol hay han
                    have Hng := Lib.hid hng
                    have hlt2 : ((p : Int) < (r : Int) + 1) = False := eq_false (by omega)
                    by_cases he : p = r + 1
                    · have he2 : ((p : Int) == (r : Int) + 1) = true := by simp; omega
                      have hres := Lib.hid (hay.out he)
                      have He := Lib.hid he
                      clear hay han he hxw hw1 hng hsol
                      go_wp2_with fail
                      go_roundw
                      case rel => exact ⟨i + 1, _, hlt, by go_num, hres, hset, hbst⟩
                      case measure => simp [intOf]; omega
                    · have he2 : ((p : Int) == (r : Int) + 1) = false := beq_eq_false_iff_ne.2 (by omega)
                      have hres := Lib.hid (han.out he)
                      clear hay han he hxw hw1 hng hsol hset hbst
                      go_wp2_with fail
                      go_roundw
                      case rel => exact ⟨i + 1, _, hlt, by go_num, hres, hR, hbz⟩
                      case measure => simp [intOf]; omega
                  | false =>
                    rw [hng] at c2 hxw
                    have hw1 : x.w = 0 := by simpa using hxw
                    rw [hw1] at hsol hay han
                    have hlt2 : ((p : Int) < (r : Int)) = False := eq_false (by omega)
                    have hlt3 : (p < r) = False := eq_false (by omega)
                    by_cases he : p = r + 0
                    · have he2 : ((p : Int) == (r : Int)) = true := by simp; omega
                      have hres := Lib.hid (hay.out he)
                      clear hay han he hxw hw1 hng hsol
                      go_wp2_with fail
                      go_roundw
                      case rel => exact ⟨i + 1, _, hlt, by go_num, hres, hset, hbst⟩
                      case measure => simp [intOf]; omega
                    · have he2 : ((p : Int) == (r : Int)) = false := beq_eq_false_iff_ne.2 (by omega)
                      have hres := Lib.hid (han.out he)
                      clear hay han he hxw hw1 hng hsol hset hbst
                      go_wp2_with fail
                      go_roundw
                      case rel => exact ⟨i + 1, _, hlt, by go_num, hres, hR, hbz⟩
                      case measure => simp [intOf]; omega
                · have hend := Lib.hid (fun j (hj : j < n) h0 => ask_end (show Ask K a n K.length s by have := hA.out; rwa [show i = K.length by omega] at this) HLM.out hj h0)
                  have hsl := Lib.hid hA.out.1
                  have hiI : ¬ (i : Int) < (K.length : Int) := by omega
                  clear hlt hA
                  go_wp2_with fail
                  go_loopw [17] (fun z wz => ∃ j : Nat, j ≤ n ∧ z = .int .i64 j ∧ wr = wz) (fun z _ => n - (intOf z).toNat)
                  case atStart => exact ⟨0, Nat.zero_le _, rfl, rfl⟩
                  case round =>
                    clear hiI
                    obtain ⟨j, hj, rfl, rfl⟩ := hrel
                    by_cases hjn : j < n
                    · have hal2 : (natsI a).length = n := Hal.out
                      have hal3 : a.length = n := HLM.out.1
                      obtain ⟨b2, o2, rfl, -, -, d0, -⟩ := Y2.out.int (k := j) (by omega)
                      rw [natsI_lv (by omega)] at d0
                      have e1 := hR.out.cell (j := j) (by rw [hsl.out]; exact hjn)
                      rw [← soB_get] at e1
                      have hq := Lib.hid (hend.out j hjn)
                      have hp1 := lev_bound Hr.out HLM.out j
                      obtain ⟨p, hp⟩ : ∃ p, p = lv a j := ⟨_, rfl⟩
                      rw [← hp] at d0 hq hp1
                      obtain ⟨q, hqe⟩ : ∃ q, q = soB s j := ⟨_, rfl⟩
                      rw [← hqe] at e1 hq
                      have hjI : (j : Int) < (n : Int) := by omega
                      have hj0 : (0 : Int) ≤ (j : Int) := by omega
                      have hp0 : ((p : Int) < 0) = False := eq_false (by omega)
                      clear hp hqe hal2 hal3
                      by_cases hpp : 0 < p
                      · have hq2 := hq.out hpp
                        subst hq2
                        have hpI : (0 : Int) < (p : Int) := by omega
                        clear hq
                        go_wp2_with fail
                        go_roundw
                        case rel => exact ⟨j + 1, hjn, by go_num, by first | rfl | trivial⟩
                        case measure => simp [intOf]; omega
                      · have hpI : ((0 : Int) < (p : Int)) = False := eq_false (by omega)
                        have hpN : (0 < p) = False := eq_false hpp
                        clear hq hpp
                        go_wp2_with fail
                        go_roundw
                        case rel => exact ⟨j + 1, hjn, by go_num, by first | rfl | trivial⟩
                        case measure => simp [intOf]; omega
                    · have hjI : ¬ (j : Int) < (n : Int) := by omega
                      clear hjn
                      go_wp2_with fail
                      go_ret
                      exact ⟨rfl, below_step (below_step (below_step hbz.out X25.out) D5.out) B3.out⟩
end Go.Proofs.Ytadbdmnngmlnhaa
