/-
  Layer 18: the walk of ResidTells. (The head's contract is a premise here.)
-/
import Derived.Test.YtdbennmbbmoflaaPrTa
import Derived.Test.YtdbennmbbmoflaaPrQ
import Derived.Deep.Cut
import Derived.Deep.CutRange
import Derived.Deep.DeepCutAuto
import Derived.Outline
import Derived.ChangeKeysEq
namespace Go.Proofs.Ytdbennmbbmoflaa
open Go Go.RowKit

def HeadIs : Prop := ∀ w : World, Calls Try.prog 10 #[] w (RetV (.bool true) w)

/-- What stands before ResidTells' loop. -/
structure TellM (S : Nat → Prop) (w wx : World) (B5 B8 : Nat) (s1 s2 : Int) (vo va vb v9 : Value) (g : Prog) (order : List Int) : Prop where
  bel : Below w.heap.size w wx
  d : Row 26 wx B5 [.int .i64 s1, .int .i64 s2, vo]
  r : Row 30 wx B8 [va, vb]
  lo5 : w.heap.size ≤ B5
  lo8 : w.heap.size ≤ B8
  g : ProgV S wx (.agg #[va, vb]) g
  o : Seq intE S wx v9 order

set_option maxHeartbeats 8000000 in
set_option maxRecDepth 100000 in
theorem tells_of (hHead : HeadIs) {w : World} {v0 vo : Value} {l : List Rule} {n : Nat} {s1 s2 : Int} {order : List Int} (hl : Seq ruleE (fun b => b < w.heap.size) w v0 l) (hn : n < 256) (ho : Seq intE (fun b => b < w.heap.size) w vo order) :
    Calls Try.prog 3 #[v0, .int .u8 n, .agg #[.int .i64 s1, .int .i64 s2, vo]] w (RetV (.bool true) w) := by
  have Hl := Lib.hid hl
  have Ho := Lib.hid ho
  obtain ⟨oa, oc, rfl, hoc, -, hol, -, -⟩ := ho
  obtain ⟨la, lc, rfl, -⟩ := hl
  have HH := Lib.hid hHead
  clear hHead
  go_enter Try.func3, Try.ntmps3
  go_wp2_with fail
  refine (HH.out _).mono ?_
  rintro e w1 ⟨rfl, hb1⟩
  have hB1 : Below w.heap.size w w1 := below_step hb1 Seq.way
  have z1 := hB1.size
  have HD := Lib.hid (Row.below (Row.new w [.int .i64 s1, .int .i64 s2, .slice oa order.length oc] 26 rfl) hb1 (by simp))
  go_wp2_with fail
  refine (Made_spec (Hl.out.at hB1) hn).mono ?_
  rintro e w2 ⟨vg, rfl, hb2, hg⟩
  have hB2 : Below w.heap.size w w2 := hB1.trans (hb2.mono z1)
  have z2 := hb2.size
  obtain ⟨ga, gac, gra, grc, rfl⟩ := hg.shape
  have Hg := Lib.hid hg
  have HD2 := Lib.hid (HD.out.below hb2 HD.out.lt)
  have zd : w.heap.size < w2.heap.size := HD2.out.lt
  have d0 := HD2.out.cell (j := 0) (by simp)
  have d1 := HD2.out.cell (j := 1) (by simp)
  have d2 := HD2.out.cell (j := 2) (by simp)
  simp only [List.getElem_cons_zero, List.getElem_cons_succ] at d0 d1 d2
  have Ho2 := Lib.hid (Ho.out.at hB2)
  have Hb2 := Lib.hid hb2
  clear hg hb1 hb2
  go_upto_region 3 with fail
  go_cut [5, 7, 8, 9] (fun s5 s7 s8 s9 wx => ∃ B5 B8 va vb, s5 = .pointer (some ⟨B5, 0, none⟩) ∧ s7 = .bool true ∧ s8 = .pointer (some ⟨B8, 0, none⟩) ∧ TellM (Fr (fun b => b < w.heap.size) w) w wx B5 B8 s1 s2 (.slice oa order.length oc) va vb s9 (madeL l n) (order.take (min order.length 40)))
  case first =>
    have hown : Own intE (fun b => b < w.heap.size) (w2.heap.size + 1) 3 ((w2.alloc (.cells #[.slice ga (madeL l n).atoms.length gac, .slice gra (madeL l n).rules.length grc] 30)).alloc (.cells #[] 3)) (.slice (some ⟨w2.heap.size + 1, 0, none⟩) 0 0) ([] : List Int) := Own.lit0 (by simp) (by simp) rfl
    have Hown := Lib.hid hown
    clear hown
    by_cases hm : order.length ≤ 40
    · have hm1 : (order.length : Int) ≤ 40 := by omega
      have hmin : order.take (min order.length 40) = order := by rw [show min order.length 40 = order.length by omega, List.take_length]
      have Hs := Lib.hid (Ho2.out.to (w' := ((w2.alloc (.cells #[.slice ga (madeL l n).atoms.length gac, .slice gra (madeL l n).rules.length grc] 30)).alloc (.cells #[] 3))))
      go_wp2_with (at_builtin; refine wpList_appL (wm := ((w2.alloc (.cells #[.slice ga (madeL l n).atoms.length gac, .slice gra (madeL l n).rules.length grc] 30)).alloc (.cells #[] 3))) (zs := order) rfl _ _ 24 rfl Try.underlying24 infoInt rfl rfl Hown.out (Below.refl _ _) rfl Hs.out (fun b h _ => ⟨h, .inl (by omega)⟩) rfl (by omega) (by (first | omega | (rw [List.length_take]; omega))) (by simp) ?_)
      intro ao cap w3 hown3 hkept
      have hb3 : Below w2.heap.size w2 w3 := (Seq.way (w := w2) (w' := ((w2.alloc (.cells #[.slice ga (madeL l n).atoms.length gac, .slice gra (madeL l n).rules.length grc] 30)).alloc (.cells #[] 3)))).trans (hkept.below.mono (by omega))
      have hr3 : Row 30 w3 w2.heap.size [.slice ga (madeL l n).atoms.length gac, .slice gra (madeL l n).rules.length grc] := ((Row.new w2 _ _ rfl).alloc _).below hkept.below (by omega)
      have HB3 := Lib.hid hb3
      have HR3 := Lib.hid hr3
      have HO3 := Lib.hid hown3
      clear hown3 hkept hb3 hr3
      go_wp2_with fail
      go_meet
      refine ⟨_, _, _, _, rfl, rfl, rfl, ⟨hB2.trans (HB3.out.mono hB2.size), HD2.out.below HB3.out HD2.out.lt, HR3.out, Nat.le_refl _, hB2.size, (Hg.out.at HB3.out).mono (fun b (h : w1.heap.size ≤ b) _ => .inr (by omega)) fun _ _ _ => rfl, by rw [hmin]; exact HO3.out.seq hol (fun b _ h => h.elim .inl fun h => .inr (by omega))⟩⟩
    · have hm1 : (40 : Int) < order.length := by omega
      have hmin : order.take (min order.length 40) = order.take 40 := by rw [show min order.length 40 = 40 by omega]
      have hoc40 : 40 ≤ oc := by omega
      have Hs := Lib.hid ((Seq.take (Ho2.out.to (w' := ((w2.alloc (.cells #[.slice ga (madeL l n).atoms.length gac, .slice gra (madeL l n).rules.length grc] 30)).alloc (.cells #[] 3)))) (j := 40) (by omega)))
      go_wp2_with (at_builtin; refine wpList_appL (wm := ((w2.alloc (.cells #[.slice ga (madeL l n).atoms.length gac, .slice gra (madeL l n).rules.length grc] 30)).alloc (.cells #[] 3))) (zs := order.take 40) rfl _ _ 24 rfl Try.underlying24 infoInt rfl rfl Hown.out (Below.refl _ _) rfl Hs.out (fun b h _ => ⟨h, .inl (by omega)⟩) rfl (by omega) (by (first | omega | (rw [List.length_take]; omega))) (by simp) ?_)
      intro ao cap w3 hown3 hkept
      have hb3 : Below w2.heap.size w2 w3 := (Seq.way (w := w2) (w' := ((w2.alloc (.cells #[.slice ga (madeL l n).atoms.length gac, .slice gra (madeL l n).rules.length grc] 30)).alloc (.cells #[] 3)))).trans (hkept.below.mono (by omega))
      have hr3 : Row 30 w3 w2.heap.size [.slice ga (madeL l n).atoms.length gac, .slice gra (madeL l n).rules.length grc] := ((Row.new w2 _ _ rfl).alloc _).below hkept.below (by omega)
      have HB3 := Lib.hid hb3
      have HR3 := Lib.hid hr3
      have HO3 := Lib.hid hown3
      clear hown3 hkept hb3 hr3
      go_wp2_with fail
      go_meet
      refine ⟨_, _, _, _, rfl, rfl, rfl, ⟨hB2.trans (HB3.out.mono hB2.size), HD2.out.below HB3.out HD2.out.lt, HR3.out, Nat.le_refl _, hB2.size, (Hg.out.at HB3.out).mono (fun b (h : w1.heap.size ≤ b) _ => .inr (by omega)) fun _ _ _ => rfl, by rw [hmin]; exact HO3.out.seq (by rw [List.length_take]; omega) (fun b _ h => h.elim .inl fun h => .inr (by omega))⟩⟩
  case rest =>
    obtain ⟨B5, B8, va, vb, rfl, rfl, rfl, HM⟩ := hcut
    clear Hb2 Ho2 d0 d1 d2 zd HD2 Hg z2 hB2 HD z1 hB1 Hl Ho
    obtain ⟨g, hgm⟩ : ∃ g, g = madeL l n := ⟨_, rfl⟩
    have hfine : FineP g := by rw [hgm]; exact madeL_fine l n
    rw [← hgm] at HM
    clear hgm
    generalize order.take (min order.length 40) = ord at HM
    obtain ⟨aa, ac, ra, rc, hsh⟩ := HM.g.shape
    simp only [Value.agg.injEq, Array.mk.injEq, List.cons.injEq, and_true] at hsh
    obtain ⟨rfl, rfl⟩ := hsh
    obtain ⟨w4, rfl⟩ : ∃ w4, w4 = wc := ⟨_, rfl⟩
    have HT := Lib.hid HM
    have hkeep : ∀ {W : World}, Below w4.heap.size w4 W → W.cell? ⟨B8, 0, none⟩ = some (.slice aa g.atoms.length ac) ∧ W.cell? ⟨B8, 1, none⟩ = some (.slice ra g.rules.length rc) := fun hW =>
      ⟨(rowTo HT.out.r hW).cell (j := 0) (by simp), (rowTo HT.out.r hW).cell (j := 1) (by simp)⟩
    have Hkeep := fun {W : World} (hW : Below w4.heap.size w4 W) => Lib.hid (hkeep hW)
    clear hkeep HM
    go_upto_region 4 with fail
    go_cut [6, 10, 11] (fun s6 s10 s11 wx => ∃ ca cc da dc, s6 = .bool false ∧ s10 = .slice ca (canL g).length cc ∧ s11 = .slice da (canL g).length dc ∧ Seq pairE (fun b => w4.heap.size ≤ b) wx (.slice ca (canL g).length cc) (canL g) ∧ Seq pairE (fun b => w4.heap.size ≤ b) wx (.slice da (canL g).length dc) (canL g) ∧ Below w4.heap.size w4 wx)
    case first =>
      go_region_held3 (fun w' => w'.cell? ⟨B8, 0, none⟩ = some (.slice aa g.atoms.length ac) ∧ w'.cell? ⟨B8, 1, none⟩ = some (.slice ra g.rules.length rc))
        (first | exact (Hkeep Seq.way).out | go_keep)
        (first
          | (go_at_call 12; refine (CanP_spec (HT.out.g.at Seq.way) hfine).mono ?_; rintro e w5 ⟨v5, rfl, hb5, hp5⟩; have HB5 := below_step hb5 (Seq.way : Below w4.heap.size w4 _))
          | (go_at_call 13; refine (CanR_spec (HT.out.g.at Seq.way) hfine.toGoodP).mono ?_; rintro e w6 ⟨v6, rfl, hb6, hp6⟩; have HB6 := below_step hb6 (Seq.way : Below w4.heap.size w4 _)))
      all_goals go_wp2_with fail
      all_goals go_meet
      obtain ⟨ca, cc, rfl, -⟩ := id hp5
      obtain ⟨da, dc, rfl, -⟩ := id hp6
      exact ⟨ca, cc, da, dc, rfl, rfl, rfl, (hp5.at hb6).mono (fun b (h : w4.heap.size ≤ b) _ => h) fun _ _ _ => rfl, hp6.mono (fun b (h : w5.heap.size ≤ b) _ => Nat.le_trans HB5.size h) fun _ _ _ => rfl, HB6⟩
    case rest =>
      obtain ⟨ca, cc, da, dc, rfl, rfl, rfl, hA, hD, hB⟩ := hcut
      have HA := Lib.hid hA
      have HDd := Lib.hid hD
      have HB := Lib.hid hB
      have zb := HB.out.size
      obtain ⟨len, hlen⟩ : ∃ len, len = (canL g).length := ⟨_, rfl⟩
      have Hlen := Lib.hid hlen
      rw [← hlen] at HA HDd ⊢
      have hlen9 : len ≤ 140737488355328 := by rw [hlen]; obtain ⟨_, _, -, -, -, h, -⟩ := hA; exact h
      clear hlen hA hD hB
      obtain ⟨w5, rfl⟩ : ∃ w5, w5 = wc := ⟨_, rfl⟩
      go_wp2_with fail
      go_loopw [12] (fun i wr => ∃ k : Nat, k ≤ len ∧ i = .int .i64 k ∧ Below w5.heap.size w5 wr) (fun i _ => len - (intOf i).toNat)
      case atStart => exact ⟨0, Nat.zero_le _, rfl, Below.refl _ _⟩
      case round =>
        obtain ⟨k, hk, rfl, hbr⟩ := hrel
        have zr := hbr.size
        by_cases hlt : k < len
        · have hlt' : k < (canL g).length := by rw [← Hlen.out]; exact hlt
          have hB5r : Below w4.heap.size w4 wr := HB.out.trans (hbr.mono zb)
          have hAr := HA.out.at hbr
          have hDr := HDd.out.at hbr
          have hAr' := hAr
          have hDr' := hDr
          rw [Hlen.out] at hAr' hDr'
          obtain ⟨_, _, ea, -, -, -, -, hsa⟩ := hAr'
          obtain ⟨_, _, ed, -, -, -, -, hsd⟩ := hDr'
          simp only [Value.slice.injEq] at ea ed
          obtain ⟨rfl, -, rfl⟩ := ea
          obtain ⟨rfl, -, rfl⟩ := ed
          obtain ⟨ab, ao, rfl, -, hab, a0, a1, -, -⟩ := hsa.pair hlt'
          obtain ⟨db, dof, rfl, -, hdb, d0, d1, ok1, ok2⟩ := hsd.pair hlt'
          obtain ⟨s, hs⟩ : ∃ s, s = (canL g)[k] := ⟨_, rfl⟩
          rw [← hs] at a0 a1 d0 d1 ok1 ok2
          clear hs hAr hDr hsa hsd
          obtain ⟨w6, rfl⟩ : ∃ w6, w6 = wr := ⟨_, rfl⟩
          have hkl : (k : Int) < (len : Int) := by omega
          have hk0 : (0 : Int) ≤ (k : Int) := by omega
          have hk9 : ∀ {W : World}, Below w6.heap.size w6 W → W.cell? ⟨B8, 0, none⟩ = some (.slice aa g.atoms.length ac) ∧ W.cell? ⟨B8, 1, none⟩ = some (.slice ra g.rules.length rc) ∧ W.cell? ⟨ab, ao + k * 2, none⟩ = some (.int .i64 s.1) ∧ W.cell? ⟨ab, ao + k * 2 + 1, none⟩ = some (.int .i64 s.2) ∧ W.cell? ⟨db, dof + k * 2, none⟩ = some (.int .i64 s.1) ∧ W.cell? ⟨db, dof + k * 2 + 1, none⟩ = some (.int .i64 s.2) := fun hW =>
            ⟨(rowTo HT.out.r (hB5r.trans (hW.mono hB5r.size))).cell (j := 0) (by simp), (rowTo HT.out.r (hB5r.trans (hW.mono hB5r.size))).cell (j := 1) (by simp), (hW.cell (p := ⟨ab, ao + k * 2, none⟩) hab).trans a0, (hW.cell (p := ⟨ab, ao + k * 2 + 1, none⟩) hab).trans a1, (hW.cell (p := ⟨db, dof + k * 2, none⟩) hdb).trans d0, (hW.cell (p := ⟨db, dof + k * 2 + 1, none⟩) hdb).trans d1⟩
          have Hk9 := fun {W : World} (hW : Below w6.heap.size w6 W) => Lib.hid (hk9 hW)
          clear hk9
          have HG := Lib.hid ((HT.out.g.at hB5r).mono (T := fun b => b < w6.heap.size) (fun b _ h => h) fun _ _ _ => rfl)
          go_wp2_with fail
          go_cut [13, 14] (fun s13 s14 wx => ∃ B p q, s13 = .pointer (some ⟨B, 0, none⟩) ∧ s14 = .bool (doL g s).2 ∧ Row 30 wx B [p, q] ∧ ProgV (fun _ => True) wx (.agg #[p, q]) (doL g s).1 ∧ Below w6.heap.size w6 wx)
          case first =>
            refine wp_region_noPanic ?_
            refine wp_region_held_drew (S := fun w' => w'.cell? ⟨B8, 0, none⟩ = some (.slice aa g.atoms.length ac) ∧ w'.cell? ⟨B8, 1, none⟩ = some (.slice ra g.rules.length rc) ∧ w'.cell? ⟨ab, ao + k * 2, none⟩ = some (.int .i64 s.1) ∧ w'.cell? ⟨ab, ao + k * 2 + 1, none⟩ = some (.int .i64 s.2) ∧ w'.cell? ⟨db, dof + k * 2, none⟩ = some (.int .i64 s.1) ∧ w'.cell? ⟨db, dof + k * 2 + 1, none⟩ = some (.int .i64 s.2)) (by kernel_rfl) ?_ (fun hHeld => ?_)
            · exact (Hk9 (Below.drew (Below.refl _ _))).out
            refine wpAnyH_take1 (i := 0) (oi := _) (v := ?_) (by kernel_rfl) rfl (by kernel_rfl) (fun _ _ _ h => h) (Or.inl ⟨by rfl, ?_⟩) (by assumption) ?_
            rotate_left 1
            · intro w hSw; (try dsimp only at hSw); go_simp; (with_reducible rfl)
            simp only [Act.put, List.getElem_toArray, List.getElem_cons_zero, List.setIfInBounds_toArray, List.set_cons_zero, List.set_cons_succ]
            refine wpAnyH_take1 (i := 1) (oi := _) (v := ?_) (by kernel_rfl) rfl (by kernel_rfl) (fun _ _ _ h => h) (Or.inl ⟨by rfl, ?_⟩) (by assumption) ?_
            rotate_left 1
            · intro w hSw; (try dsimp only at hSw); go_simp; (with_reducible rfl)
            simp only [Act.put, List.getElem_toArray, List.getElem_cons_zero, List.getElem_cons_succ, List.setIfInBounds_toArray, List.set_cons_zero, List.set_cons_succ]
            refine wpAnyH_take1 (i := 2) (oi := _) (v := ?_) (by kernel_rfl) rfl (by kernel_rfl) (fun _ _ _ h => h) (Or.inl ⟨by rfl, ?_⟩) (by assumption) ?_
            rotate_left 1
            · intro w hSw; (try dsimp only at hSw); go_simp; (with_reducible rfl)
            simp only [Act.put, List.getElem_toArray, List.getElem_cons_zero, List.getElem_cons_succ, List.setIfInBounds_toArray, List.set_cons_zero, List.set_cons_succ]
            refine wpAnyH_take1 (i := 3) (oi := _) (v := ?_) (by kernel_rfl) rfl (by kernel_rfl) (fun _ _ _ h => h) (Or.inl ⟨by rfl, ?_⟩) (by assumption) ?_
            rotate_left 1
            · intro w hSw; (try dsimp only at hSw); go_simp; (with_reducible rfl)
            simp only [Act.put, List.getElem_toArray, List.getElem_cons_zero, List.getElem_cons_succ, List.setIfInBounds_toArray, List.set_cons_zero, List.set_cons_succ]
            refine wpAnyH_take1 (i := 4) (oi := _) (v := ?_) (by kernel_rfl) rfl (by kernel_rfl) (fun _ _ _ h => h) (Or.inl ⟨by rfl, ?_⟩) (by assumption) ?_
            rotate_left 1
            · intro w hSw; (try dsimp only at hSw); go_simp; (with_reducible rfl)
            simp only [Act.put, List.getElem_toArray, List.getElem_cons_zero, List.getElem_cons_succ, List.setIfInBounds_toArray, List.set_cons_zero, List.set_cons_succ]
            clear hHeld
            refine wpAnyH_fork (i := 5) (j := 9) (by kernel_rfl) rfl rfl (by rfl) (by rfl) ?_ ?_
            · intro K hK
              go_simp
              refine (DoP_spec (s := s) (HG.out.at Seq.way) hfine).mono ?_
              rintro e x1 ⟨_, rfl, hb, p, rfl, hp⟩
              obtain ⟨sa, sac, sr, src, rfl⟩ := hp.shape
              (try dsimp only)
              have HB1 := below_step hb (Seq.way : Below w6.heap.size w6 _)
              have z1 := HB1.size
              refine hK.out _ _ (Hk9 HB1).out fun hHeld => ?_
              clear hK K
              (try simp only [Act.put, List.getElem_toArray, List.getElem_cons_zero, List.getElem_cons_succ, List.setIfInBounds_toArray, List.set_cons_zero, List.set_cons_succ])
              refine wpAnyH_take1 (i := 6) (oi := _) (v := ?_) (by kernel_rfl) rfl (by kernel_rfl) (fun _ _ _ h => h) (Or.inl ⟨by rfl, ?_⟩) (by assumption) ?_
              rotate_left 1
              · intro w hSw; (try dsimp only at hSw); go_simp; (with_reducible rfl)
              simp only [Act.put, List.getElem_toArray, List.getElem_cons_zero, List.getElem_cons_succ, List.setIfInBounds_toArray, List.set_cons_zero, List.set_cons_succ]
              refine wpAnyH_take1 (i := 7) (oi := _) (v := ?_) (by kernel_rfl) rfl (by kernel_rfl) (fun _ _ _ h => h) (Or.inl ⟨by rfl, ?_⟩) (by assumption) ?_
              rotate_left 1
              · intro w hSw; (try dsimp only at hSw); go_simp; (with_reducible rfl)
              simp only [Act.put, List.getElem_toArray, List.getElem_cons_zero, List.getElem_cons_succ, List.setIfInBounds_toArray, List.set_cons_zero, List.set_cons_succ]
              refine wpAnyH_take1 (i := 8) (oi := _) (v := ?_) (by kernel_rfl) rfl (by kernel_rfl) (fun _ _ _ h => h) (Or.inl ⟨by rfl, ?_⟩) (by assumption) ?_
              rotate_left 1
              · intro w hSw; (try dsimp only at hSw); go_simp; (with_reducible rfl)
              simp only [Act.put, List.getElem_toArray, List.getElem_cons_zero, List.getElem_cons_succ, List.setIfInBounds_toArray, List.set_cons_zero, List.set_cons_succ]
              clear hHeld
              refine wpAnyH_one (i := 9) (by kernel_rfl) rfl (by rfl) fun K hK => ?_
              go_simp
              refine hK.out _ _ (Hk9 Seq.way).out fun hHeld => ?_
              clear hK K
              (try simp only [Act.put, List.getElem_toArray, List.getElem_cons_zero, List.getElem_cons_succ, List.setIfInBounds_toArray, List.set_cons_zero, List.set_cons_succ])
              have hR : Row 30 (x1.alloc (.cells #[.slice none 0 0, .slice none 0 0] 30)) x1.heap.size [.slice none 0 0, .slice none 0 0] := Row.new _ _ _ rfl
              have hp' : ProgV (fun b => b ≠ x1.heap.size) (x1.alloc (.cells #[.slice none 0 0, .slice none 0 0] 30)) _ (doL g s).1 := hp.mono (fun b _ hl e => absurd hl (by rw [e]; exact Nat.lt_irrefl _)) fun b _ hl => Below.heap_alloc _ _ _ hl
              have HBx : Below w6.heap.size w6 (x1.alloc (.cells #[.slice none 0 0, .slice none 0 0] 30)) := Seq.way
              have hlo : w6.heap.size ≤ x1.heap.size := z1
              clear hp hb
              generalize hx3 : x1.alloc (.cells #[.slice none 0 0, .slice none 0 0] 30) = x3 at hR hp' HBx hHeld ⊢
              generalize x1.heap.size = B at hR hp' hlo ⊢
              clear hx3
              have hp := hp'
              clear hp'
              have b0 := hR.cell (j := 0) (by simp)
              have b1 := hR.cell (j := 1) (by simp)
              simp only [List.getElem_cons_zero, List.getElem_cons_succ] at b0 b1
              have bf := hR.frozen
              refine wpAnyH_one (i := 10) (by kernel_rfl) rfl (by rfl) fun K hK => ?_
              go_simp
              have HBy := (HBx.setCell (p := ⟨B, 0, none⟩) hlo (.slice sa (doL g s).1.atoms.length sac)).setCell (p := ⟨B, 1, none⟩) hlo (.slice sr (doL g s).1.rules.length src)
              have HRy : Row 30 ((x3.setCell ⟨B, 0, none⟩ (.slice sa (doL g s).1.atoms.length sac)).setCell ⟨B, 1, none⟩ (.slice sr (doL g s).1.rules.length src)) (B) [(.slice sa (doL g s).1.atoms.length sac), (.slice sr (doL g s).1.rules.length src)] := (hR.set 0 (.slice sa (doL g s).1.atoms.length sac)).set 1 (.slice sr (doL g s).1.rules.length src)
              have HPy : ProgV (fun _ => True) ((x3.setCell ⟨B, 0, none⟩ (.slice sa (doL g s).1.atoms.length sac)).setCell ⟨B, 1, none⟩ (.slice sr (doL g s).1.rules.length src)) (.agg #[(.slice sa (doL g s).1.atoms.length sac), (.slice sr (doL g s).1.rules.length src)]) (doL g s).1 := hp.mono (fun _ _ _ => trivial) fun b hb _ => (((Only.refl _ x3).set 0 (.slice sa (doL g s).1.atoms.length sac)).set 1 (.slice sr (doL g s).1.rules.length src)) b hb
              clear hHeld b0 b1 bf
              refine hK.out _ _ (Hk9 HBy).out fun hHeld => ?_
              generalize (x3.setCell ⟨B, 0, none⟩ (.slice sa (doL g s).1.atoms.length sac)).setCell ⟨B, 1, none⟩ (.slice sr (doL g s).1.rules.length src) = x4 at HBy HRy HPy hHeld ⊢
              clear hK K hR hp HBx
              refine wpAnyH_one (i := 11) (by kernel_rfl) rfl (by rfl) fun K hK => ?_
              go_simp
              refine hK.out _ _ hHeld fun hHeld => ?_
              clear hK K
              refine wpAnyH_done (by kernel_rfl) ?_ _
              refine NoPanic.normal ?_
              go_wp2_with fail
              go_meet
              exact ⟨_, _, _, rfl, rfl, HRy, HPy, HBy⟩
            · intro K hK
              go_simp
              refine hK.out _ _ (Hk9 Seq.way).out fun hHeld => ?_
              clear hK K
              (try simp only [Act.put, List.getElem_toArray, List.getElem_cons_zero, List.getElem_cons_succ, List.setIfInBounds_toArray, List.set_cons_zero, List.set_cons_succ])
              have hR0 : Row 30 (w6.alloc (.cells #[.slice none 0 0, .slice none 0 0] 30)).drew w6.heap.size [.slice none 0 0, .slice none 0 0] := Row.at (Row.new w6 _ _ rfl) rfl
              have HB0 : Below w6.heap.size w6 (w6.alloc (.cells #[.slice none 0 0, .slice none 0 0] 30)).drew := Seq.way
              generalize (w6.alloc (.cells #[.slice none 0 0, .slice none 0 0] 30)).drew = x1 at hR0 HB0 hHeld ⊢
              clear hHeld
              refine wpAnyH_one (i := 5) (by kernel_rfl) rfl (by rfl) fun K hK => ?_
              go_simp
              refine (DoP_spec (s := s) (HG.out.at HB0) hfine).mono ?_
              rintro e x3 ⟨_, rfl, hb, p, rfl, hp0⟩
              obtain ⟨sa, sac, sr, src, rfl⟩ := hp0.shape
              (try dsimp only)
              have HBx := below_step hb HB0
              refine hK.out _ _ (Hk9 HBx).out fun hHeld => ?_
              clear hK K
              (try simp only [Act.put, List.getElem_toArray, List.getElem_cons_zero, List.getElem_cons_succ, List.setIfInBounds_toArray, List.set_cons_zero, List.set_cons_succ])
              have hR := rowTo hR0 hb
              have hlB := hR0.lt
              have hlo : w6.heap.size ≤ w6.heap.size := Nat.le_refl _
              have hp : ProgV (fun b => b ≠ w6.heap.size) x3 _ (doL g s).1 := hp0.mono (fun b hb _ e => by rcases hb with h | h <;> (subst e; omega)) fun _ _ _ => rfl
              clear hp0 hR0 hb
              refine wpAnyH_take1 (i := 6) (oi := _) (v := ?_) (by kernel_rfl) rfl (by kernel_rfl) (fun _ _ _ h => h) (Or.inl ⟨by rfl, ?_⟩) (by assumption) ?_
              rotate_left 1
              · intro w hSw; (try dsimp only at hSw); go_simp; (with_reducible rfl)
              simp only [Act.put, List.getElem_toArray, List.getElem_cons_zero, List.getElem_cons_succ, List.setIfInBounds_toArray, List.set_cons_zero, List.set_cons_succ]
              refine wpAnyH_take1 (i := 7) (oi := _) (v := ?_) (by kernel_rfl) rfl (by kernel_rfl) (fun _ _ _ h => h) (Or.inl ⟨by rfl, ?_⟩) (by assumption) ?_
              rotate_left 1
              · intro w hSw; (try dsimp only at hSw); go_simp; (with_reducible rfl)
              simp only [Act.put, List.getElem_toArray, List.getElem_cons_zero, List.getElem_cons_succ, List.setIfInBounds_toArray, List.set_cons_zero, List.set_cons_succ]
              refine wpAnyH_take1 (i := 8) (oi := _) (v := ?_) (by kernel_rfl) rfl (by kernel_rfl) (fun _ _ _ h => h) (Or.inl ⟨by rfl, ?_⟩) (by assumption) ?_
              rotate_left 1
              · intro w hSw; (try dsimp only at hSw); go_simp; (with_reducible rfl)
              simp only [Act.put, List.getElem_toArray, List.getElem_cons_zero, List.getElem_cons_succ, List.setIfInBounds_toArray, List.set_cons_zero, List.set_cons_succ]
              have b0 := hR.cell (j := 0) (by simp)
              have b1 := hR.cell (j := 1) (by simp)
              simp only [List.getElem_cons_zero, List.getElem_cons_succ] at b0 b1
              have bf := hR.frozen
              refine wpAnyH_one (i := 10) (by kernel_rfl) rfl (by rfl) fun K hK => ?_
              go_simp
              have HBy := (HBx.setCell (p := ⟨w6.heap.size, 0, none⟩) hlo (.slice sa (doL g s).1.atoms.length sac)).setCell (p := ⟨w6.heap.size, 1, none⟩) hlo (.slice sr (doL g s).1.rules.length src)
              have HRy : Row 30 ((x3.setCell ⟨w6.heap.size, 0, none⟩ (.slice sa (doL g s).1.atoms.length sac)).setCell ⟨w6.heap.size, 1, none⟩ (.slice sr (doL g s).1.rules.length src)) (w6.heap.size) [(.slice sa (doL g s).1.atoms.length sac), (.slice sr (doL g s).1.rules.length src)] := (hR.set 0 (.slice sa (doL g s).1.atoms.length sac)).set 1 (.slice sr (doL g s).1.rules.length src)
              have HPy : ProgV (fun _ => True) ((x3.setCell ⟨w6.heap.size, 0, none⟩ (.slice sa (doL g s).1.atoms.length sac)).setCell ⟨w6.heap.size, 1, none⟩ (.slice sr (doL g s).1.rules.length src)) (.agg #[(.slice sa (doL g s).1.atoms.length sac), (.slice sr (doL g s).1.rules.length src)]) (doL g s).1 := hp.mono (fun _ _ _ => trivial) fun b hb _ => (((Only.refl _ x3).set 0 (.slice sa (doL g s).1.atoms.length sac)).set 1 (.slice sr (doL g s).1.rules.length src)) b hb
              clear hHeld b0 b1 bf
              refine hK.out _ _ (Hk9 HBy).out fun hHeld => ?_
              generalize (x3.setCell ⟨w6.heap.size, 0, none⟩ (.slice sa (doL g s).1.atoms.length sac)).setCell ⟨w6.heap.size, 1, none⟩ (.slice sr (doL g s).1.rules.length src) = x4 at HBy HRy HPy hHeld ⊢
              clear hK K hR hp HBx
              refine wpAnyH_one (i := 11) (by kernel_rfl) rfl (by rfl) fun K hK => ?_
              go_simp
              refine hK.out _ _ hHeld fun hHeld => ?_
              clear hK K
              refine wpAnyH_done (by kernel_rfl) ?_ _
              refine NoPanic.normal ?_
              go_wp2_with fail
              go_meet
              exact ⟨_, _, _, rfl, rfl, HRy, HPy, HBy⟩
          case rest =>
            obtain ⟨B13, p13, q13, rfl, rfl, hR13, hP13, hB7⟩ := hcut
            obtain ⟨w7, rfl⟩ : ∃ w7, w7 = wc := ⟨_, rfl⟩
            have z7 := hB7.size
            have Hk7 := fun {W : World} (hW : Below w7.heap.size w7 W) => Hk9 (hB7.trans (hW.mono z7))
            have HG7 := Lib.hid ((HG.out.at hB7).mono (T := fun b => b < w7.heap.size) (fun b (h : b < w6.heap.size) _ => Nat.lt_of_lt_of_le h z7) fun _ _ _ => rfl)
            have R13 := Lib.hid hR13
            have P13 := Lib.hid hP13
            clear hR13 hP13
            go_wp2_with fail
            go_cut [15, 16] (fun s13 s14 wx => ∃ B p q, s13 = .pointer (some ⟨B, 0, none⟩) ∧ s14 = .bool (doL g s).2 ∧ Row 30 wx B [p, q] ∧ ProgV (fun _ => True) wx (.agg #[p, q]) (doL g s).1 ∧ Below w7.heap.size w7 wx)
            case first =>
              refine wp_region_noPanic ?_
              refine wp_region_held_drew (S := fun w' => w'.cell? ⟨B8, 0, none⟩ = some (.slice aa g.atoms.length ac) ∧ w'.cell? ⟨B8, 1, none⟩ = some (.slice ra g.rules.length rc) ∧ w'.cell? ⟨ab, ao + k * 2, none⟩ = some (.int .i64 s.1) ∧ w'.cell? ⟨ab, ao + k * 2 + 1, none⟩ = some (.int .i64 s.2) ∧ w'.cell? ⟨db, dof + k * 2, none⟩ = some (.int .i64 s.1) ∧ w'.cell? ⟨db, dof + k * 2 + 1, none⟩ = some (.int .i64 s.2)) (by kernel_rfl) ?_ (fun hHeld => ?_)
              · exact (Hk7 (Below.drew (Below.refl _ _))).out
              refine wpAnyH_take1 (i := 0) (oi := _) (v := ?_) (by kernel_rfl) rfl (by kernel_rfl) (fun _ _ _ h => h) (Or.inl ⟨by rfl, ?_⟩) (by assumption) ?_
              rotate_left 1
              · intro w hSw; (try dsimp only at hSw); go_simp; (with_reducible rfl)
              simp only [Act.put, List.getElem_toArray, List.getElem_cons_zero, List.setIfInBounds_toArray, List.set_cons_zero, List.set_cons_succ]
              refine wpAnyH_take1 (i := 1) (oi := _) (v := ?_) (by kernel_rfl) rfl (by kernel_rfl) (fun _ _ _ h => h) (Or.inl ⟨by rfl, ?_⟩) (by assumption) ?_
              rotate_left 1
              · intro w hSw; (try dsimp only at hSw); go_simp; (with_reducible rfl)
              simp only [Act.put, List.getElem_toArray, List.getElem_cons_zero, List.getElem_cons_succ, List.setIfInBounds_toArray, List.set_cons_zero, List.set_cons_succ]
              refine wpAnyH_take1 (i := 2) (oi := _) (v := ?_) (by kernel_rfl) rfl (by kernel_rfl) (fun _ _ _ h => h) (Or.inl ⟨by rfl, ?_⟩) (by assumption) ?_
              rotate_left 1
              · intro w hSw; (try dsimp only at hSw); go_simp; (with_reducible rfl)
              simp only [Act.put, List.getElem_toArray, List.getElem_cons_zero, List.getElem_cons_succ, List.setIfInBounds_toArray, List.set_cons_zero, List.set_cons_succ]
              refine wpAnyH_take1 (i := 3) (oi := _) (v := ?_) (by kernel_rfl) rfl (by kernel_rfl) (fun _ _ _ h => h) (Or.inl ⟨by rfl, ?_⟩) (by assumption) ?_
              rotate_left 1
              · intro w hSw; (try dsimp only at hSw); go_simp; (with_reducible rfl)
              simp only [Act.put, List.getElem_toArray, List.getElem_cons_zero, List.getElem_cons_succ, List.setIfInBounds_toArray, List.set_cons_zero, List.set_cons_succ]
              refine wpAnyH_take1 (i := 4) (oi := _) (v := ?_) (by kernel_rfl) rfl (by kernel_rfl) (fun _ _ _ h => h) (Or.inl ⟨by rfl, ?_⟩) (by assumption) ?_
              rotate_left 1
              · intro w hSw; (try dsimp only at hSw); go_simp; (with_reducible rfl)
              simp only [Act.put, List.getElem_toArray, List.getElem_cons_zero, List.getElem_cons_succ, List.setIfInBounds_toArray, List.set_cons_zero, List.set_cons_succ]
              clear hHeld
              refine wpAnyH_fork (i := 5) (j := 9) (by kernel_rfl) rfl rfl (by rfl) (by rfl) ?_ ?_
              · intro K hK
                go_simp
                refine (DoR_spec (s := s) (HG7.out.at Seq.way) hfine).mono ?_
                rintro e x1 ⟨_, rfl, hb, p, rfl, hp⟩
                obtain ⟨sa, sac, sr, src, rfl⟩ := hp.shape
                (try dsimp only)
                have HB1 := below_step hb (Seq.way : Below w7.heap.size w7 _)
                have z1 := HB1.size
                refine hK.out _ _ (Hk7 HB1).out fun hHeld => ?_
                clear hK K
                (try simp only [Act.put, List.getElem_toArray, List.getElem_cons_zero, List.getElem_cons_succ, List.setIfInBounds_toArray, List.set_cons_zero, List.set_cons_succ])
                refine wpAnyH_take1 (i := 6) (oi := _) (v := ?_) (by kernel_rfl) rfl (by kernel_rfl) (fun _ _ _ h => h) (Or.inl ⟨by rfl, ?_⟩) (by assumption) ?_
                rotate_left 1
                · intro w hSw; (try dsimp only at hSw); go_simp; (with_reducible rfl)
                simp only [Act.put, List.getElem_toArray, List.getElem_cons_zero, List.getElem_cons_succ, List.setIfInBounds_toArray, List.set_cons_zero, List.set_cons_succ]
                refine wpAnyH_take1 (i := 7) (oi := _) (v := ?_) (by kernel_rfl) rfl (by kernel_rfl) (fun _ _ _ h => h) (Or.inl ⟨by rfl, ?_⟩) (by assumption) ?_
                rotate_left 1
                · intro w hSw; (try dsimp only at hSw); go_simp; (with_reducible rfl)
                simp only [Act.put, List.getElem_toArray, List.getElem_cons_zero, List.getElem_cons_succ, List.setIfInBounds_toArray, List.set_cons_zero, List.set_cons_succ]
                refine wpAnyH_take1 (i := 8) (oi := _) (v := ?_) (by kernel_rfl) rfl (by kernel_rfl) (fun _ _ _ h => h) (Or.inl ⟨by rfl, ?_⟩) (by assumption) ?_
                rotate_left 1
                · intro w hSw; (try dsimp only at hSw); go_simp; (with_reducible rfl)
                simp only [Act.put, List.getElem_toArray, List.getElem_cons_zero, List.getElem_cons_succ, List.setIfInBounds_toArray, List.set_cons_zero, List.set_cons_succ]
                clear hHeld
                refine wpAnyH_one (i := 9) (by kernel_rfl) rfl (by rfl) fun K hK => ?_
                go_simp
                refine hK.out _ _ (Hk7 Seq.way).out fun hHeld => ?_
                clear hK K
                (try simp only [Act.put, List.getElem_toArray, List.getElem_cons_zero, List.getElem_cons_succ, List.setIfInBounds_toArray, List.set_cons_zero, List.set_cons_succ])
                have hR : Row 30 (x1.alloc (.cells #[.slice none 0 0, .slice none 0 0] 30)) x1.heap.size [.slice none 0 0, .slice none 0 0] := Row.new _ _ _ rfl
                have hp' : ProgV (fun b => b ≠ x1.heap.size) (x1.alloc (.cells #[.slice none 0 0, .slice none 0 0] 30)) _ (doL g s).1 := hp.mono (fun b _ hl e => absurd hl (by rw [e]; exact Nat.lt_irrefl _)) fun b _ hl => Below.heap_alloc _ _ _ hl
                have HBx : Below w7.heap.size w7 (x1.alloc (.cells #[.slice none 0 0, .slice none 0 0] 30)) := Seq.way
                have hlo : w7.heap.size ≤ x1.heap.size := z1
                clear hp hb
                generalize hx3 : x1.alloc (.cells #[.slice none 0 0, .slice none 0 0] 30) = x3 at hR hp' HBx hHeld ⊢
                generalize x1.heap.size = B at hR hp' hlo ⊢
                clear hx3
                have hp := hp'
                clear hp'
                have b0 := hR.cell (j := 0) (by simp)
                have b1 := hR.cell (j := 1) (by simp)
                simp only [List.getElem_cons_zero, List.getElem_cons_succ] at b0 b1
                have bf := hR.frozen
                refine wpAnyH_one (i := 10) (by kernel_rfl) rfl (by rfl) fun K hK => ?_
                go_simp
                have HBy := (HBx.setCell (p := ⟨B, 0, none⟩) hlo (.slice sa (doL g s).1.atoms.length sac)).setCell (p := ⟨B, 1, none⟩) hlo (.slice sr (doL g s).1.rules.length src)
                have HRy : Row 30 ((x3.setCell ⟨B, 0, none⟩ (.slice sa (doL g s).1.atoms.length sac)).setCell ⟨B, 1, none⟩ (.slice sr (doL g s).1.rules.length src)) (B) [(.slice sa (doL g s).1.atoms.length sac), (.slice sr (doL g s).1.rules.length src)] := (hR.set 0 (.slice sa (doL g s).1.atoms.length sac)).set 1 (.slice sr (doL g s).1.rules.length src)
                have HPy : ProgV (fun _ => True) ((x3.setCell ⟨B, 0, none⟩ (.slice sa (doL g s).1.atoms.length sac)).setCell ⟨B, 1, none⟩ (.slice sr (doL g s).1.rules.length src)) (.agg #[(.slice sa (doL g s).1.atoms.length sac), (.slice sr (doL g s).1.rules.length src)]) (doL g s).1 := hp.mono (fun _ _ _ => trivial) fun b hb _ => (((Only.refl _ x3).set 0 (.slice sa (doL g s).1.atoms.length sac)).set 1 (.slice sr (doL g s).1.rules.length src)) b hb
                clear hHeld b0 b1 bf
                refine hK.out _ _ (Hk7 HBy).out fun hHeld => ?_
                generalize (x3.setCell ⟨B, 0, none⟩ (.slice sa (doL g s).1.atoms.length sac)).setCell ⟨B, 1, none⟩ (.slice sr (doL g s).1.rules.length src) = x4 at HBy HRy HPy hHeld ⊢
                clear hK K hR hp HBx
                refine wpAnyH_one (i := 11) (by kernel_rfl) rfl (by rfl) fun K hK => ?_
                go_simp
                refine hK.out _ _ hHeld fun hHeld => ?_
                clear hK K
                refine wpAnyH_done (by kernel_rfl) ?_ _
                refine NoPanic.normal ?_
                go_wp2_with fail
                go_meet
                exact ⟨_, _, _, rfl, rfl, HRy, HPy, HBy⟩
              · intro K hK
                go_simp
                refine hK.out _ _ (Hk7 Seq.way).out fun hHeld => ?_
                clear hK K
                (try simp only [Act.put, List.getElem_toArray, List.getElem_cons_zero, List.getElem_cons_succ, List.setIfInBounds_toArray, List.set_cons_zero, List.set_cons_succ])
                have hR0 : Row 30 (w7.alloc (.cells #[.slice none 0 0, .slice none 0 0] 30)).drew w7.heap.size [.slice none 0 0, .slice none 0 0] := Row.at (Row.new w7 _ _ rfl) rfl
                have HB0 : Below w7.heap.size w7 (w7.alloc (.cells #[.slice none 0 0, .slice none 0 0] 30)).drew := Seq.way
                generalize (w7.alloc (.cells #[.slice none 0 0, .slice none 0 0] 30)).drew = x1 at hR0 HB0 hHeld ⊢
                clear hHeld
                refine wpAnyH_one (i := 5) (by kernel_rfl) rfl (by rfl) fun K hK => ?_
                go_simp
                refine (DoR_spec (s := s) (HG7.out.at HB0) hfine).mono ?_
                rintro e x3 ⟨_, rfl, hb, p, rfl, hp0⟩
                obtain ⟨sa, sac, sr, src, rfl⟩ := hp0.shape
                (try dsimp only)
                have HBx := below_step hb HB0
                refine hK.out _ _ (Hk7 HBx).out fun hHeld => ?_
                clear hK K
                (try simp only [Act.put, List.getElem_toArray, List.getElem_cons_zero, List.getElem_cons_succ, List.setIfInBounds_toArray, List.set_cons_zero, List.set_cons_succ])
                have hR := rowTo hR0 hb
                have hlB := hR0.lt
                have hlo : w7.heap.size ≤ w7.heap.size := Nat.le_refl _
                have hp : ProgV (fun b => b ≠ w7.heap.size) x3 _ (doL g s).1 := hp0.mono (fun b hb _ e => by rcases hb with h | h <;> (subst e; omega)) fun _ _ _ => rfl
                clear hp0 hR0 hb
                refine wpAnyH_take1 (i := 6) (oi := _) (v := ?_) (by kernel_rfl) rfl (by kernel_rfl) (fun _ _ _ h => h) (Or.inl ⟨by rfl, ?_⟩) (by assumption) ?_
                rotate_left 1
                · intro w hSw; (try dsimp only at hSw); go_simp; (with_reducible rfl)
                simp only [Act.put, List.getElem_toArray, List.getElem_cons_zero, List.getElem_cons_succ, List.setIfInBounds_toArray, List.set_cons_zero, List.set_cons_succ]
                refine wpAnyH_take1 (i := 7) (oi := _) (v := ?_) (by kernel_rfl) rfl (by kernel_rfl) (fun _ _ _ h => h) (Or.inl ⟨by rfl, ?_⟩) (by assumption) ?_
                rotate_left 1
                · intro w hSw; (try dsimp only at hSw); go_simp; (with_reducible rfl)
                simp only [Act.put, List.getElem_toArray, List.getElem_cons_zero, List.getElem_cons_succ, List.setIfInBounds_toArray, List.set_cons_zero, List.set_cons_succ]
                refine wpAnyH_take1 (i := 8) (oi := _) (v := ?_) (by kernel_rfl) rfl (by kernel_rfl) (fun _ _ _ h => h) (Or.inl ⟨by rfl, ?_⟩) (by assumption) ?_
                rotate_left 1
                · intro w hSw; (try dsimp only at hSw); go_simp; (with_reducible rfl)
                simp only [Act.put, List.getElem_toArray, List.getElem_cons_zero, List.getElem_cons_succ, List.setIfInBounds_toArray, List.set_cons_zero, List.set_cons_succ]
                have b0 := hR.cell (j := 0) (by simp)
                have b1 := hR.cell (j := 1) (by simp)
                simp only [List.getElem_cons_zero, List.getElem_cons_succ] at b0 b1
                have bf := hR.frozen
                refine wpAnyH_one (i := 10) (by kernel_rfl) rfl (by rfl) fun K hK => ?_
                go_simp
                have HBy := (HBx.setCell (p := ⟨w7.heap.size, 0, none⟩) hlo (.slice sa (doL g s).1.atoms.length sac)).setCell (p := ⟨w7.heap.size, 1, none⟩) hlo (.slice sr (doL g s).1.rules.length src)
                have HRy : Row 30 ((x3.setCell ⟨w7.heap.size, 0, none⟩ (.slice sa (doL g s).1.atoms.length sac)).setCell ⟨w7.heap.size, 1, none⟩ (.slice sr (doL g s).1.rules.length src)) (w7.heap.size) [(.slice sa (doL g s).1.atoms.length sac), (.slice sr (doL g s).1.rules.length src)] := (hR.set 0 (.slice sa (doL g s).1.atoms.length sac)).set 1 (.slice sr (doL g s).1.rules.length src)
                have HPy : ProgV (fun _ => True) ((x3.setCell ⟨w7.heap.size, 0, none⟩ (.slice sa (doL g s).1.atoms.length sac)).setCell ⟨w7.heap.size, 1, none⟩ (.slice sr (doL g s).1.rules.length src)) (.agg #[(.slice sa (doL g s).1.atoms.length sac), (.slice sr (doL g s).1.rules.length src)]) (doL g s).1 := hp.mono (fun _ _ _ => trivial) fun b hb _ => (((Only.refl _ x3).set 0 (.slice sa (doL g s).1.atoms.length sac)).set 1 (.slice sr (doL g s).1.rules.length src)) b hb
                clear hHeld b0 b1 bf
                refine hK.out _ _ (Hk7 HBy).out fun hHeld => ?_
                generalize (x3.setCell ⟨w7.heap.size, 0, none⟩ (.slice sa (doL g s).1.atoms.length sac)).setCell ⟨w7.heap.size, 1, none⟩ (.slice sr (doL g s).1.rules.length src) = x4 at HBy HRy HPy hHeld ⊢
                clear hK K hR hp HBx
                refine wpAnyH_one (i := 11) (by kernel_rfl) rfl (by rfl) fun K hK => ?_
                go_simp
                refine hK.out _ _ hHeld fun hHeld => ?_
                clear hK K
                refine wpAnyH_done (by kernel_rfl) ?_ _
                refine NoPanic.normal ?_
                go_wp2_with fail
                go_meet
                exact ⟨_, _, _, rfl, rfl, HRy, HPy, HBy⟩
            case rest =>
              obtain ⟨B15, p15, q15, rfl, rfl, hR15, hP15, hB8⟩ := hcut
              obtain ⟨w8, rfl⟩ : ∃ w8, w8 = wc := ⟨_, rfl⟩
              have z8 := hB8.size
              have R13' := Lib.hid (rowTo R13.out hB8)
              have P13' := Lib.hid (P13.out.at hB8)
              have R15 := Lib.hid hR15
              have P15 := Lib.hid hP15
              clear hR15 hP15 R13 P13
              obtain ⟨ea, eb, ec, ed, e13⟩ := P13'.out.shape
              obtain ⟨fa, fb, fc, fd, e15⟩ := P15.out.shape
              simp only [Value.agg.injEq, Array.mk.injEq, List.cons.injEq, and_true] at e13 e15
              obtain ⟨rfl, rfl⟩ := e13
              obtain ⟨rfl, rfl⟩ := e15
              have hk8 : ∀ {W : World}, Below w8.heap.size w8 W → W.cell? ⟨ab, ao + k * 2, none⟩ = some (.int .i64 s.1) ∧ W.cell? ⟨ab, ao + k * 2 + 1, none⟩ = some (.int .i64 s.2) ∧ W.cell? ⟨db, dof + k * 2, none⟩ = some (.int .i64 s.1) ∧ W.cell? ⟨db, dof + k * 2 + 1, none⟩ = some (.int .i64 s.2) ∧ W.cell? ⟨B13, 0, none⟩ = some (.slice ea (doL g s).1.atoms.length eb) ∧ W.cell? ⟨B13, 1, none⟩ = some (.slice ec (doL g s).1.rules.length ed) ∧ W.cell? ⟨B15, 0, none⟩ = some (.slice fa (doL g s).1.atoms.length fb) ∧ W.cell? ⟨B15, 1, none⟩ = some (.slice fc (doL g s).1.rules.length fd) := fun hW =>
                ⟨(Hk7 (hB8.trans (hW.mono z8))).out.2.2.1, (Hk7 (hB8.trans (hW.mono z8))).out.2.2.2.1, (Hk7 (hB8.trans (hW.mono z8))).out.2.2.2.2.1, (Hk7 (hB8.trans (hW.mono z8))).out.2.2.2.2.2, (rowTo R13'.out hW).cell (j := 0) (by simp), (rowTo R13'.out hW).cell (j := 1) (by simp), (rowTo R15.out hW).cell (j := 0) (by simp), (rowTo R15.out hW).cell (j := 1) (by simp)⟩
              have Hk8 := fun {W : World} (hW : Below w8.heap.size w8 W) => Lib.hid (hk8 hW)
              clear hk8
              have hpe : ∀ W, Sem.run Try.prog (Op.equalIn 10000 23 (.agg #[.int .i64 s.1, .int .i64 s.2]) (.agg #[.int .i64 s.1, .int .i64 s.2])) W = .ok true W := fun W => by rw [pair_equal]; simp
              have HBw := Lib.hid (hbr.trans ((hB7.trans (hB8.mono z7)).mono zr))
              go_wp2_with fail
              go_region_held3 (fun w' => w'.cell? ⟨ab, ao + k * 2, none⟩ = some (.int .i64 s.1) ∧ w'.cell? ⟨ab, ao + k * 2 + 1, none⟩ = some (.int .i64 s.2) ∧ w'.cell? ⟨db, dof + k * 2, none⟩ = some (.int .i64 s.1) ∧ w'.cell? ⟨db, dof + k * 2 + 1, none⟩ = some (.int .i64 s.2) ∧ w'.cell? ⟨B13, 0, none⟩ = some (.slice ea (doL g s).1.atoms.length eb) ∧ w'.cell? ⟨B13, 1, none⟩ = some (.slice ec (doL g s).1.rules.length ed) ∧ w'.cell? ⟨B15, 0, none⟩ = some (.slice fa (doL g s).1.atoms.length fb) ∧ w'.cell? ⟨B15, 1, none⟩ = some (.slice fc (doL g s).1.rules.length fd))
                (first | exact (Hk8 Seq.way).out | go_keep)
                (first
                  | (go_at_call 16; refine (same_eq (P13'.out.at Seq.way) (P15.out.at Seq.way)).mono ?_; rintro e w9 ⟨rfl, hb9⟩; have HB9 := below_step hb9 (Seq.way : Below w8.heap.size w8 _)))
              all_goals go_wp2_with fail
              go_roundw
              case rel => exact ⟨k + 1, hlt, by go_num, HBw.out.trans (HB9.mono HBw.out.size)⟩
              case measure => simp [intOf]; omega
        · have hB5r : Below w4.heap.size w4 wr := HB.out.trans (hbr.mono zb)
          clear HA HDd Hlen hlen9
          obtain ⟨w6, rfl⟩ : ∃ w6, w6 = wr := ⟨_, rfl⟩
          have HB6 := Lib.hid hB5r
          have R5 := Lib.hid (rowTo HT.out.d hB5r)
          have R8 := Lib.hid (rowTo HT.out.r hB5r)
          have PG := Lib.hid (HT.out.g.at hB5r)
          have SO := Lib.hid (HT.out.o.at hB5r)
          have c80 := R8.out.cell (j := 0) (by simp)
          have c81 := R8.out.cell (j := 1) (by simp)
          have c50 := R5.out.cell (j := 0) (by simp)
          have c51 := R5.out.cell (j := 1) (by simp)
          simp only [List.getElem_cons_zero, List.getElem_cons_succ] at c80 c81 c50 c51
          have l8 := R8.out.lt
          have l5 := R5.out.lt
          have hlt' : ¬ ((k : Int) < (len : Int)) := by omega
          clear hbr zr hB5r Hkeep
          go_wp2_with fail
          refine (DoP_spec (s := (s1, s2)) PG.out hfine).mono ?_
          rintro e w7 ⟨_, rfl, hb7, p17, rfl, hp17⟩
          replace hp17 := hp17.any
          obtain ⟨a17, b17, c17, d17, rfl⟩ := hp17.shape
          have P17 := Lib.hid hp17
          have HB7 := Lib.hid (HB6.out.trans (hb7.mono HB6.out.size))
          have R5' := Lib.hid (rowTo R5.out hb7)
          have R8' := Lib.hid (rowTo R8.out hb7)
          have PG' := Lib.hid (PG.out.at hb7)
          have SO' := Lib.hid (SO.out.at hb7)
          clear c80 c81 c50 c51 l8 l5 R5 R8 PG SO hp17
          have c80 := R8'.out.cell (j := 0) (by simp)
          have c81 := R8'.out.cell (j := 1) (by simp)
          have c50 := R5'.out.cell (j := 0) (by simp)
          have c51 := R5'.out.cell (j := 1) (by simp)
          simp only [List.getElem_cons_zero, List.getElem_cons_succ] at c80 c81 c50 c51
          have l8 := R8'.out.lt
          have l5 := R5'.out.lt
          clear hb7
          go_wp2_with fail
          refine (DoR_spec (s := (s1, s2)) (PG'.out.at Seq.way) hfine).mono ?_
          rintro e w8 ⟨_, rfl, hb8, p19, rfl, hp19⟩
          replace hp19 := hp19.any
          obtain ⟨a19, b19, c19, d19, rfl⟩ := hp19.shape
          have P19 := Lib.hid hp19
          have hb8' := below_step hb8 (Seq.way : Below w7.heap.size w7 _)
          have HB8 := Lib.hid (HB7.out.trans (hb8'.mono HB7.out.size))
          have R8 := Lib.hid (rowTo R8'.out hb8')
          have PG := Lib.hid (PG'.out.at hb8')
          have SO := Lib.hid (SO'.out.at hb8')
          have P17' := Lib.hid (P17.out.at hb8')
          have R17 := Lib.hid (rowTo (Row.new w7 _ _ rfl) hb8)
          clear c80 c81 c50 c51 l8 l5 R5' R8' PG' SO' hp19 hb8 hb8' P17 HB6 HB7
          go_upto_region 16 with fail
          have hR19 : Row 30 (w8.alloc (.cells #[.slice a19 (doL g (s1, s2)).1.atoms.length b19, .slice c19 (doL g (s1, s2)).1.rules.length d19] 30)) w8.heap.size [.slice a19 (doL g (s1, s2)).1.atoms.length b19, .slice c19 (doL g (s1, s2)).1.rules.length d19] := Row.new _ _ _ rfl
          have hb9 : Below w8.heap.size w8 (w8.alloc (.cells #[.slice a19 (doL g (s1, s2)).1.atoms.length b19, .slice c19 (doL g (s1, s2)).1.rules.length d19] 30)) := Seq.way
          generalize w8.alloc (.cells #[.slice a19 (doL g (s1, s2)).1.atoms.length b19, .slice c19 (doL g (s1, s2)).1.rules.length d19] 30) = w9 at hR19 hb9 ⊢
          have R19 := Lib.hid hR19
          have Hb9 := Lib.hid hb9
          have HB9 := Lib.hid (HB8.out.trans (hb9.mono HB8.out.size))
          have R8' := Lib.hid (rowTo R8.out hb9)
          have PG' := Lib.hid ((PG.out.at hb9).mono (T := fun k => k < w9.heap.size) (fun _ _ hl => hl) fun _ _ _ => rfl)
          have SO' := Lib.hid (SO.out.at hb9)
          have P19' := Lib.hid (P19.out.at hb9)
          have P17 := Lib.hid (P17'.out.at hb9)
          have R17' := Lib.hid (rowTo R17.out hb9)
          clear R8 PG SO P19 P17' R17 hR19 hb9
          generalize w8.heap.size = B19 at R19 ⊢
          generalize w7.heap.size = B17 at R17' ⊢
          have hkeep : ∀ {W : World}, Below w9.heap.size w9 W → W.cell? ⟨B8, 0, none⟩ = some (.slice aa g.atoms.length ac) ∧ W.cell? ⟨B8, 1, none⟩ = some (.slice ra g.rules.length rc) := fun hW =>
            ⟨(rowTo R8'.out hW).cell (j := 0) (by simp), (rowTo R8'.out hW).cell (j := 1) (by simp)⟩
          have Hkeep := fun {W : World} (hW : Below w9.heap.size w9 W) => Lib.hid (hkeep hW)
          clear hkeep
          go_cut [21, 22] (fun s21 s22 wx => ∃ B21 B22 v1 v2 p1 q1 p2 q2, s21 = .pointer (some ⟨B21, 0, none⟩) ∧ s22 = .pointer (some ⟨B22, 0, none⟩) ∧ v1 = .agg #[p1, q1] ∧ v2 = .agg #[p2, q2] ∧ End2 w9 (reduceL g ord) (reduceL g ord) B21 B22 v1 v2 [p1, q1] [p2, q2] wx)
          case first =>
            refine wp_region_noPanic ?_
            refine wp_region_held_drew (S := fun w' => w'.cell? ⟨B8, 0, none⟩ = some (.slice aa g.atoms.length ac) ∧ w'.cell? ⟨B8, 1, none⟩ = some (.slice ra g.rules.length rc)) (by kernel_rfl) ?_ (fun hHeld => ?_)
            · exact (Hkeep (Below.drew (Below.refl _ _))).out
            refine wpAnyH_take1 (i := 0) (oi := _) (v := ?_) (by kernel_rfl) rfl (by kernel_rfl) (fun _ _ _ h => h) (Or.inl ⟨by rfl, ?_⟩) (by assumption) ?_
            rotate_left 1
            · intro w hSw; (try dsimp only at hSw); go_simp; (with_reducible rfl)
            simp only [Act.put, List.getElem_toArray, List.getElem_cons_zero, List.setIfInBounds_toArray, List.set_cons_zero, List.set_cons_succ]
            refine wpAnyH_take1 (i := 1) (oi := _) (v := ?_) (by kernel_rfl) rfl (by kernel_rfl) (fun _ _ _ h => h) (Or.inl ⟨by rfl, ?_⟩) (by assumption) ?_
            rotate_left 1
            · intro w hSw; (try dsimp only at hSw); go_simp; (with_reducible rfl)
            simp only [Act.put, List.getElem_toArray, List.getElem_cons_zero, List.getElem_cons_succ, List.setIfInBounds_toArray, List.set_cons_zero, List.set_cons_succ]
            refine wpAnyH_take1 (i := 3) (oi := _) (v := ?_) (by kernel_rfl) rfl (by kernel_rfl) (fun _ _ _ h => h) (Or.inl ⟨by rfl, ?_⟩) (by assumption) ?_
            rotate_left 1
            · intro w hSw; (try dsimp only at hSw); go_simp; (with_reducible rfl)
            simp only [Act.put, List.getElem_toArray, List.getElem_cons_zero, List.getElem_cons_succ, List.setIfInBounds_toArray, List.set_cons_zero, List.set_cons_succ]
            refine wpAnyH_take1 (i := 4) (oi := _) (v := ?_) (by kernel_rfl) rfl (by kernel_rfl) (fun _ _ _ h => h) (Or.inl ⟨by rfl, ?_⟩) (by assumption) ?_
            rotate_left 1
            · intro w hSw; (try dsimp only at hSw); go_simp; (with_reducible rfl)
            simp only [Act.put, List.getElem_toArray, List.getElem_cons_zero, List.getElem_cons_succ, List.setIfInBounds_toArray, List.set_cons_zero, List.set_cons_succ]
            have hSk : ∀ W : World, Below w9.heap.size w9 W → _ := fun W hW => (Hkeep hW).out
            refine region_2boxed 105 108 21 22 w9 (reduceL g ord) (reduceL g ord) (v1 := u105) (v2 := u108) (sa := undef) (sb := undef) (fun x y a b => #[true, true, x, true, true, y, a, b, false, false]) 2 5 6 7 (by kernel_rfl) (fun _ _ => rfl) (fun _ _ => rfl) (fun _ _ _ => rfl) (fun _ _ _ => rfl) hSk ?h1 ?h2 ?ha ?hb (by kernel_rfl) ?hend ?hA (Below.drew (Below.refl _ _)) rfl (Nat.le_of_ble_eq_true (by kernel_rfl))
            case hA => simp only [RF2, Act.put, List.setIfInBounds_toArray, List.set_cons_zero, List.set_cons_succ]
            case h1 =>
              rintro a b _ w1 ⟨v1, v2, sa, sb, rfl, hR⟩
              have HR := Lib.hid hR
              clear hR
              refine wpOp_run rfl (by rfl) ?_
              generalize hK : RI2 _ _ _ _ _ w9 _ _ true false a b = K
              have HK := Lib.hid hK
              clear hK
              simp only [RF2, Act.put, List.setIfInBounds_toArray, List.set_cons_zero, List.set_cons_succ, List.getElem_toArray, List.getElem_cons_zero, List.getElem_cons_succ]
              go_simp
              refine (ReduceP_spec (PG'.out.at HR.out.bel) hfine (SO'.out.at HR.out.bel)).mono ?_
              rintro e w2 ⟨vv, rfl, hb, hp⟩
              (try dsimp only)
              rw [← HK.out]
              exact ⟨_, v2, sa, sb, by simp only [RF2, Act.put, List.setIfInBounds_toArray, List.set_cons_zero, List.set_cons_succ], HR.out.call1 hb hp⟩
            case h2 =>
              rintro a b _ w1 ⟨v1, v2, sa, sb, rfl, hR⟩
              have HR := Lib.hid hR
              clear hR
              refine wpOp_run rfl (by rfl) ?_
              generalize hK : RI2 _ _ _ _ _ w9 _ _ true true a b = K
              have HK := Lib.hid hK
              clear hK
              simp only [RF2, Act.put, List.setIfInBounds_toArray, List.set_cons_zero, List.set_cons_succ, List.getElem_toArray, List.getElem_cons_zero, List.getElem_cons_succ]
              go_simp
              refine (ReduceR_spec (PG'.out.at HR.out.bel) hfine.toGoodP (SO'.out.at HR.out.bel)).mono ?_
              rintro e w2 ⟨vv, rfl, hb, hp⟩
              (try dsimp only)
              rw [← HK.out]
              exact ⟨v1, _, sa, sb, by simp only [RF2, Act.put, List.setIfInBounds_toArray, List.set_cons_zero, List.set_cons_succ], HR.out.call2 hb hp⟩
            case ha =>
              rintro x y b _ w1 ⟨v1, v2, sa, sb, rfl, hR⟩
              have hN := Lib.hid hR.newA
              clear hR
              refine wpOp_run rfl (by rfl) ?_
              generalize hK : RI2 _ _ _ _ _ w9 _ _ x y true b = K
              have HK := Lib.hid hK
              clear hK
              simp only [RF2, Act.put, List.setIfInBounds_toArray, List.set_cons_zero, List.set_cons_succ, List.getElem_toArray, List.getElem_cons_zero, List.getElem_cons_succ]
              go_simp
              rw [← HK.out]
              exact ⟨v1, v2, _, sb, by simp only [RF2, Act.put, List.setIfInBounds_toArray, List.set_cons_zero, List.set_cons_succ], hN.out⟩
            case hb =>
              rintro x y a _ w1 ⟨v1, v2, sa, sb, rfl, hR⟩
              have hN := Lib.hid hR.newB
              clear hR
              refine wpOp_run rfl (by rfl) ?_
              generalize hK : RI2 _ _ _ _ _ w9 _ _ x y a true = K
              have HK := Lib.hid hK
              clear hK
              simp only [RF2, Act.put, List.setIfInBounds_toArray, List.set_cons_zero, List.set_cons_succ, List.getElem_toArray, List.getElem_cons_zero, List.getElem_cons_succ]
              go_simp
              rw [← HK.out]
              exact ⟨v1, v2, sa, _, by simp only [RF2, Act.put, List.setIfInBounds_toArray, List.set_cons_zero, List.set_cons_succ], hN.out⟩
            case hend =>
              intro v1 v2 Ba Bb w10 hE fuel
              obtain ⟨e1, f1, e2, f2, rfl⟩ := hE.p1.shape
              obtain ⟨e3, f3, e4, f4, rfl⟩ := hE.p2.shape
              have g1 := Lib.hid hE
              clear hE
              have a80 := g1.out.ra.cell (j := 0) (by simp [zP])
              have a81 := g1.out.ra.cell (j := 1) (by simp [zP])
              simp only [zP, List.getElem_cons_zero, List.getElem_cons_succ] at a80 a81
              have f8 := g1.out.ra.frozen
              refine wpAnyH_one (i := 8) (by kernel_rfl) rfl (by rfl) fun K hK => ?_
              (try simp only [RF2, Act.put, List.setIfInBounds_toArray, List.set_cons_zero, List.set_cons_succ, List.getElem_toArray, List.getElem_cons_zero, List.getElem_cons_succ])
              go_simp
              clear f8 a80 a81
              have g8 := Lib.hid (g1.out.setA (p := (.slice e1 (reduceL g ord).atoms.length f1)) (q := (.slice e2 (reduceL g ord).rules.length f2)))
              refine hK.out _ _ (hSk _ g8.out.bel) fun _ => ?_
              clear hK K
              generalize (((w10).setCell ⟨Ba, 0, none⟩ (.slice e1 (reduceL g ord).atoms.length f1)).setCell ⟨Ba, 1, none⟩ (.slice e2 (reduceL g ord).rules.length f2)) = w11 at g8 ⊢
              clear g1
              have a90 := g8.out.rb.cell (j := 0) (by simp [zP])
              have a91 := g8.out.rb.cell (j := 1) (by simp [zP])
              simp only [zP, List.getElem_cons_zero, List.getElem_cons_succ] at a90 a91
              have f9 := g8.out.rb.frozen
              refine wpAnyH_one (i := 9) (by kernel_rfl) rfl (by rfl) fun K hK => ?_
              (try simp only [List.getElem_toArray, List.getElem_cons_zero, List.getElem_cons_succ])
              go_simp
              clear f9 a90 a91
              have g9 := Lib.hid (g8.out.setB (p := (.slice e3 (reduceL g ord).atoms.length f3)) (q := (.slice e4 (reduceL g ord).rules.length f4)))
              refine hK.out _ _ (hSk _ g9.out.bel) fun _ => ?_
              clear hK K
              generalize (((w11).setCell ⟨Bb, 0, none⟩ (.slice e3 (reduceL g ord).atoms.length f3)).setCell ⟨Bb, 1, none⟩ (.slice e4 (reduceL g ord).rules.length f4)) = w12 at g9 ⊢
              clear g8
              refine wpAnyH_done (by kernel_rfl) ?_ _
              refine NoPanic.normal ?_
              go_wp2_with fail
              go_meet
              exact ⟨Ba, Bb, _, _, _, _, _, _, rfl, rfl, rfl, rfl, g9.out⟩
          case rest =>
            obtain ⟨B21, B22, v1, v2, p1, q1, p2, q2, rfl, rfl, rfl, rfl, hE⟩ := hcut
            obtain ⟨gr, hgr⟩ : ∃ gr, gr = reduceL g ord := ⟨_, rfl⟩
            have hrf : FineP gr := by rw [hgr]; exact reduceL_fine hfine
            rw [← hgr] at hE
            clear hgr
            obtain ⟨e1, f1, e2, f2, s21⟩ := hE.p1.shape
            obtain ⟨e3, f3, e4, f4, s22⟩ := hE.p2.shape
            simp only [Value.agg.injEq, Array.mk.injEq, List.cons.injEq, and_true] at s21 s22
            obtain ⟨rfl, rfl⟩ := s21
            obtain ⟨rfl, rfl⟩ := s22
            obtain ⟨x0, rfl⟩ : ∃ x0, x0 = wc := ⟨_, rfl⟩
            have hb0 := hE.bel
            have HW := Lib.hid (HT.out.bel.trans ((HB9.out.trans (hb0.mono HB9.out.size)).mono HT.out.bel.size))
            have Q8 := Lib.hid (rowTo R8'.out hb0)
            have Q17 := Lib.hid (rowTo R17'.out hb0)
            have Q19 := Lib.hid (rowTo R19.out hb0)
            have Q21 := Lib.hid hE.ra
            have Q22 := Lib.hid hE.rb
            have P17x := Lib.hid (P17.out.at hb0)
            have P19x := Lib.hid (P19'.out.at hb0)
            have P21x := Lib.hid hE.p1
            have P22x := Lib.hid hE.p2
            have PGx := Lib.hid (PG'.out.at hb0)
            clear Hkeep R8' R17' R19 P17 P19' PG' SO' hE hb0
            have hkeep : ∀ {W : World}, Below x0.heap.size x0 W → W.cell? ⟨B17, 0, none⟩ = some (.slice a17 ((doL g (s1, s2)).1.atoms.length) b17) ∧ W.cell? ⟨B17, 1, none⟩ = some (.slice c17 ((doL g (s1, s2)).1.rules.length) d17) ∧ W.cell? ⟨B19, 0, none⟩ = some (.slice a19 ((doL g (s1, s2)).1.atoms.length) b19) ∧ W.cell? ⟨B19, 1, none⟩ = some (.slice c19 ((doL g (s1, s2)).1.rules.length) d19) ∧ W.cell? ⟨B21, 0, none⟩ = some (.slice e1 (gr.atoms.length) f1) ∧ W.cell? ⟨B21, 1, none⟩ = some (.slice e2 (gr.rules.length) f2) ∧ W.cell? ⟨B22, 0, none⟩ = some (.slice e3 (gr.atoms.length) f3) ∧ W.cell? ⟨B22, 1, none⟩ = some (.slice e4 (gr.rules.length) f4) ∧ W.cell? ⟨B8, 0, none⟩ = some (.slice aa (g.atoms.length) ac) ∧ W.cell? ⟨B8, 1, none⟩ = some (.slice ra (g.rules.length) rc) := fun hW =>
              ⟨(rowTo Q17.out hW).cell (j := 0) (by simp), (rowTo Q17.out hW).cell (j := 1) (by simp), (rowTo Q19.out hW).cell (j := 0) (by simp), (rowTo Q19.out hW).cell (j := 1) (by simp), (rowTo Q21.out hW).cell (j := 0) (by simp), (rowTo Q21.out hW).cell (j := 1) (by simp), (rowTo Q22.out hW).cell (j := 0) (by simp), (rowTo Q22.out hW).cell (j := 1) (by simp), (rowTo Q8.out hW).cell (j := 0) (by simp), (rowTo Q8.out hW).cell (j := 1) (by simp)⟩
            have Hkeep := fun {W : World} (hW : Below x0.heap.size x0 W) => Lib.hid (hkeep hW)
            clear hkeep
            go_upto_region 17 with fail
            go_region_held3 (fun w' => w'.cell? ⟨B17, 0, none⟩ = some (.slice a17 ((doL g (s1, s2)).1.atoms.length) b17) ∧ w'.cell? ⟨B17, 1, none⟩ = some (.slice c17 ((doL g (s1, s2)).1.rules.length) d17) ∧ w'.cell? ⟨B19, 0, none⟩ = some (.slice a19 ((doL g (s1, s2)).1.atoms.length) b19) ∧ w'.cell? ⟨B19, 1, none⟩ = some (.slice c19 ((doL g (s1, s2)).1.rules.length) d19) ∧ w'.cell? ⟨B21, 0, none⟩ = some (.slice e1 (gr.atoms.length) f1) ∧ w'.cell? ⟨B21, 1, none⟩ = some (.slice e2 (gr.rules.length) f2) ∧ w'.cell? ⟨B22, 0, none⟩ = some (.slice e3 (gr.atoms.length) f3) ∧ w'.cell? ⟨B22, 1, none⟩ = some (.slice e4 (gr.rules.length) f4) ∧ w'.cell? ⟨B8, 0, none⟩ = some (.slice aa (g.atoms.length) ac) ∧ w'.cell? ⟨B8, 1, none⟩ = some (.slice ra (g.rules.length) rc))
              (first | exact (Hkeep Seq.way).out | go_keep)
              (first
              | (go_at_call 16; (with_reducible refine (same_eq (P17x.out.at Seq.way) (P19x.out.at Seq.way)).mono ?_); rintro e x1 ⟨rfl, hx1⟩; have HX1 := below_step hx1 (Seq.way : Below x0.heap.size x0 _); have zx1 := HX1.size)
              | (go_at_call 16; (with_reducible refine (same_eq (P21x.out.at Seq.way) (P22x.out.at Seq.way)).mono ?_); rintro e x2 ⟨rfl, hx2⟩; have HX2 := below_step hx2 (Seq.way : Below x0.heap.size x0 _); have zx2 := HX2.size)
              | (go_at_call 20; (with_reducible refine (TruthP_spec (PGx.out.at Seq.way) hfine).mono ?_); rintro e x3 ⟨v3, rfl, hx3, hq3⟩; have HX3 := below_step hx3 (Seq.way : Below x0.heap.size x0 _); have zx3 := HX3.size)
              | (go_at_call 21; (with_reducible refine (TruthR_spec (PGx.out.at Seq.way) hfine.toGoodP).mono ?_); rintro e x4 ⟨v4, rfl, hx4, hq4⟩; have HX4 := below_step hx4 (Seq.way : Below x0.heap.size x0 _); have zx4 := HX4.size)
              | (go_at_call 19; (with_reducible refine (ints_eq (hq3.at Seq.way) (hq4.at Seq.way)).mono ?_); rintro e x5 ⟨rfl, hx5⟩; have HX5 := below_step hx5 (Seq.way : Below x0.heap.size x0 _); have zx5 := HX5.size)
              | (go_at_call 20; (with_reducible refine (TruthP_spec (P22x.out.at Seq.way) hrf).mono ?_); rintro e x6 ⟨v6, rfl, hx6, hq6⟩; have HX6 := below_step hx6 (Seq.way : Below x0.heap.size x0 _); have zx6 := HX6.size)
              | (go_at_call 21; (with_reducible refine (TruthR_spec (P22x.out.at Seq.way) hrf.toGoodP).mono ?_); rintro e x7 ⟨v7, rfl, hx7, hq7⟩; have HX7 := below_step hx7 (Seq.way : Below x0.heap.size x0 _); have zx7 := HX7.size)
              | (go_at_call 19; (with_reducible refine (ints_eq (hq6.at Seq.way) (hq7.at Seq.way)).mono ?_); rintro e x8 ⟨rfl, hx8⟩; have HX8 := below_step hx8 (Seq.way : Below x0.heap.size x0 _); have zx8 := HX8.size))
            all_goals go_wp2_with fail
            refine bodyPost_ret (v := .bool true) (by simp [results, Try.results3, go_sem]) rfl ⟨rfl, HW.out.trans (HX8.mono HW.out.size)⟩
theorem tells_spec {w : World} {v0 vo : Value} {l : List Rule} {n : Nat} {s1 s2 : Int} {order : List Int} (hl : Seq ruleE (fun b => b < w.heap.size) w v0 l) (hn : n < 256) (ho : Seq intE (fun b => b < w.heap.size) w vo order) :
    Calls Try.prog 3 #[v0, .int .u8 n, .agg #[.int .i64 s1, .int .i64 s2, vo]] w (RetV (.bool true) w) :=
  tells_of (fun _ => head_of doIs) hl hn ho
end Go.Proofs.Ytdbennmbbmoflaa
