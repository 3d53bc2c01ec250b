/-
  Layer 18: the walk of ResidEnd.
-/
import Derived.Test.YtdbennmbbmoflaaPrV
import Derived.Test.YtdbennmbbmoflaaRise
import Derived.Test.YtdbennmbbmoflaaRgC
namespace Go.Proofs.Ytdbennmbbmoflaa
open Go Go.RowKit

theorem can_end {S : Nat → Prop} {w : World} {v : Value} {E : Prog} (hg : ProgV S w v E) (hE : FineP E) (hc : canL E = []) : Calls Try.prog 12 #[v] w (Ret (fun o _ => ∃ a c, o = .slice a 0 c) w) := by
  refine (CanP_spec hg hE).mono ?_
  rintro e w1 ⟨o, rfl, hb, hp⟩
  rw [hc] at hp
  obtain ⟨a, c, rfl, -⟩ := hp
  exact ⟨_, rfl, hb, _, _, rfl⟩
theorem reduce_end_spec {S T : Nat → Prop} {w : World} {v u : Value} {E : Prog} {o : List Int} (hg : ProgV S w v E) (hE : FineP E) (hc : canL E = []) (ho : Seq intE T w u o) : Calls Try.prog 17 #[v, u] w (Ret (fun o w' => ProgV (Fr S w) w' o E) w) := by
  have h := ReduceP_spec hg hE ho
  rw [reduce_own hc] at h
  exact h

set_option maxHeartbeats 8000000 in
set_option maxRecDepth 100000 in
theorem end_walk {w : World} {v0 vo : Value} {l : List Rule} {n : Nat} {order : List Int} (hl : Seq ruleE (fun b => b < w.heap.size) w v0 l) (hn : n < 256) (ho : Seq intE (fun b => b < w.heap.size) w vo order) :
    Calls Try.prog 4 #[v0, .int .u8 n, vo] w (RetV (.bool true) w) := by
  have Hl := Lib.hid hl
  have Ho := Lib.hid ho
  obtain ⟨oa, oc, rfl, hoc, -, hol, -, -⟩ := ho
  obtain ⟨la, lc, rfl, -⟩ := hl
  go_enter Try.func4, Try.ntmps4
  go_wp2_with fail
  refine (head_of doIs (w := w)).mono ?_
  rintro e w1 ⟨rfl, hb1⟩
  have z1 := hb1.size
  go_wp2_with fail
  refine (Made_spec (Hl.out.at hb1) hn).mono ?_
  rintro e w2 ⟨vg, rfl, hb2, hg⟩
  have hB2 : Below w.heap.size w w2 := hb1.trans (hb2.mono z1)
  have z2 := hb2.size
  obtain ⟨ga, gac, gra, grc, rfl⟩ := hg.shape
  have Hg := Lib.hid hg
  have Ho2 := Lib.hid (Ho.out.at hB2)
  clear hg hb1 hb2
  go_upto_region 3 with fail
  go_cut [2, 7, 8] (fun s2 s7 s8 wx => ∃ B8 va vb, s7 = .bool true ∧ s8 = .pointer (some ⟨B8, 0, none⟩) ∧ OrdM w wx B8 va vb s2 (madeL l n) (order.take (min order.length 40)))
  case first =>
    have hown : Own intE (fun b => b < w.heap.size) (w2.heap.size + 1) 3 ((w2.alloc (.cells #[.slice ga (madeL l n).atoms.length gac, .slice gra (madeL l n).rules.length grc] 30)).alloc (.cells #[] 3)) (.slice (some ⟨w2.heap.size + 1, 0, none⟩) 0 0) ([] : List Int) := Own.lit0 (by simp) (by simp) rfl
    have Hown := Lib.hid hown
    clear hown
    by_cases hm : order.length ≤ 40
    · have hm1 : (order.length : Int) ≤ 40 := by omega
      have hmin : order.take (min order.length 40) = order := by rw [show min order.length 40 = order.length by omega, List.take_length]
      have Hs := Lib.hid (Ho2.out.to (w' := ((w2.alloc (.cells #[.slice ga (madeL l n).atoms.length gac, .slice gra (madeL l n).rules.length grc] 30)).alloc (.cells #[] 3))))
      go_wp2_with (at_builtin; refine wpList_appL (wm := ((w2.alloc (.cells #[.slice ga (madeL l n).atoms.length gac, .slice gra (madeL l n).rules.length grc] 30)).alloc (.cells #[] 3))) (zs := order) rfl _ _ 24 rfl Try.underlying24 infoInt rfl rfl Hown.out (Below.refl _ _) rfl Hs.out (fun b h _ => ⟨h, .inl (by omega)⟩) rfl (by omega) (by (first | omega | (rw [List.length_take]; omega))) (by simp) ?_)
      intro ao cap w3 hown3 hkept
      have hb3 : Below w2.heap.size w2 w3 := (Seq.way (w := w2) (w' := ((w2.alloc (.cells #[.slice ga (madeL l n).atoms.length gac, .slice gra (madeL l n).rules.length grc] 30)).alloc (.cells #[] 3)))).trans (hkept.below.mono (by omega))
      have hr3 : Row 30 w3 w2.heap.size [.slice ga (madeL l n).atoms.length gac, .slice gra (madeL l n).rules.length grc] := ((Row.new w2 _ _ rfl).alloc _).below hkept.below (by omega)
      have HB3 := Lib.hid hb3
      have HR3 := Lib.hid hr3
      have HO3 := Lib.hid hown3
      clear hown3 hkept hb3 hr3
      go_wp2_with fail
      go_meet
      refine ⟨_, _, _, rfl, rfl, ⟨hB2.trans (HB3.out.mono hB2.size), HR3.out, (Hg.out.at HB3.out).mono (fun b (h : w1.heap.size ≤ b) _ => .inr (by omega)) fun _ _ _ => rfl, by rw [hmin]; exact HO3.out.seq hol (fun b _ h => h.elim .inl fun h => .inr (by omega))⟩⟩
    · have hm1 : (40 : Int) < order.length := by omega
      have hmin : order.take (min order.length 40) = order.take 40 := by rw [show min order.length 40 = 40 by omega]
      have hoc40 : 40 ≤ oc := by omega
      have Hs := Lib.hid ((Seq.take (Ho2.out.to (w' := ((w2.alloc (.cells #[.slice ga (madeL l n).atoms.length gac, .slice gra (madeL l n).rules.length grc] 30)).alloc (.cells #[] 3)))) (j := 40) (by omega)))
      go_wp2_with (at_builtin; refine wpList_appL (wm := ((w2.alloc (.cells #[.slice ga (madeL l n).atoms.length gac, .slice gra (madeL l n).rules.length grc] 30)).alloc (.cells #[] 3))) (zs := order.take 40) rfl _ _ 24 rfl Try.underlying24 infoInt rfl rfl Hown.out (Below.refl _ _) rfl Hs.out (fun b h _ => ⟨h, .inl (by omega)⟩) rfl (by omega) (by (first | omega | (rw [List.length_take]; omega))) (by simp) ?_)
      intro ao cap w3 hown3 hkept
      have hb3 : Below w2.heap.size w2 w3 := (Seq.way (w := w2) (w' := ((w2.alloc (.cells #[.slice ga (madeL l n).atoms.length gac, .slice gra (madeL l n).rules.length grc] 30)).alloc (.cells #[] 3)))).trans (hkept.below.mono (by omega))
      have hr3 : Row 30 w3 w2.heap.size [.slice ga (madeL l n).atoms.length gac, .slice gra (madeL l n).rules.length grc] := ((Row.new w2 _ _ rfl).alloc _).below hkept.below (by omega)
      have HB3 := Lib.hid hb3
      have HR3 := Lib.hid hr3
      have HO3 := Lib.hid hown3
      clear hown3 hkept hb3 hr3
      go_wp2_with fail
      go_meet
      refine ⟨_, _, _, rfl, rfl, ⟨hB2.trans (HB3.out.mono hB2.size), HR3.out, (Hg.out.at HB3.out).mono (fun b (h : w1.heap.size ≤ b) _ => .inr (by omega)) fun _ _ _ => rfl, by rw [hmin]; exact HO3.out.seq (by rw [List.length_take]; omega) (fun b _ h => h.elim .inl fun h => .inr (by omega))⟩⟩
  case rest =>
    obtain ⟨B8, va, vb, rfl, rfl, HM⟩ := hcut
    clear Ho2 Hg z2 hB2 z1 Hl Ho
    obtain ⟨g, hgm⟩ : ∃ g, g = madeL l n := ⟨_, rfl⟩
    have hfine : FineP g := by rw [hgm]; exact madeL_fine l n
    rw [← hgm] at HM
    have HGA := Lib.hid (show g.atoms = atomsTo (manyN n) by rw [hgm]; rfl)
    have HRISE := Lib.hid (show RiseP (manyN n) g by rw [hgm]; exact madeL_rise l n)
    clear hgm
    generalize order.take (min order.length 40) = ord at HM
    obtain ⟨aa, ac, ra, rc, hsh⟩ := HM.g.shape
    simp only [Value.agg.injEq, Array.mk.injEq, List.cons.injEq, and_true] at hsh
    obtain ⟨rfl, rfl⟩ := hsh
    obtain ⟨w4, rfl⟩ : ∃ w4, w4 = wc := ⟨_, rfl⟩
    have HT := Lib.hid HM
    have hkeep : ∀ {W : World}, Below w4.heap.size w4 W → W.cell? ⟨B8, 0, none⟩ = some (.slice aa g.atoms.length ac) ∧ W.cell? ⟨B8, 1, none⟩ = some (.slice ra g.rules.length rc) := fun hW =>
      ⟨(rowTo HT.out.r hW).cell (j := 0) (by simp), (rowTo HT.out.r hW).cell (j := 1) (by simp)⟩
    have Hkeep := fun {W : World} (hW : Below w4.heap.size w4 W) => Lib.hid (hkeep hW)
    clear hkeep HM
    go_upto_region 4 with fail
    generalize hw9 : w4 = w9 at HT Hkeep ⊢
    clear hw9
    have PG := Lib.hid (HT.out.g.mono (T := fun k => k < w9.heap.size) (w' := w9) (fun _ _ hl => hl) fun _ _ _ => rfl)
    have hone := Lib.hid (one_end hfine.toGoodP hfine.sort ord [])
    go_cut [9, 10] (fun s21 s22 wx => ∃ B21 B22 v1 v2 p1 q1 p2 q2, s21 = .pointer (some ⟨B21, 0, none⟩) ∧ s22 = .pointer (some ⟨B22, 0, none⟩) ∧ v1 = .agg #[p1, q1] ∧ v2 = .agg #[p2, q2] ∧ End2 w9 (reduceL g []) (reduceL g ord) B21 B22 v1 v2 [p1, q1] [p2, q2] wx)
    case first =>
      refine wp_region_noPanic ?_
      refine wp_region_held_drew (S := fun w' => w'.cell? ⟨B8, 0, none⟩ = some (.slice aa g.atoms.length ac) ∧ w'.cell? ⟨B8, 1, none⟩ = some (.slice ra g.rules.length rc)) (by kernel_rfl) ?_ (fun hHeld => ?_)
      · exact (Hkeep (Below.drew (Below.refl _ _))).out
      refine wpAnyH_take1 (i := 0) (oi := _) (v := ?_) (by kernel_rfl) rfl (by kernel_rfl) (fun _ _ _ h => h) (Or.inl ⟨by rfl, ?_⟩) (by assumption) ?_
      rotate_left 1
      · intro w hSw; (try dsimp only at hSw); go_simp; (with_reducible rfl)
      (try simp only [Act.put, List.getElem_toArray, List.getElem_cons_zero, List.setIfInBounds_toArray, List.set_cons_zero, List.set_cons_succ])
      refine wpAnyH_take1 (i := 2) (oi := _) (v := ?_) (by kernel_rfl) rfl (by kernel_rfl) (fun _ _ _ h => h) (Or.inl ⟨by rfl, ?_⟩) (by assumption) ?_
      rotate_left 1
      · intro w hSw; (try dsimp only at hSw); go_simp; (with_reducible rfl)
      (try simp only [Act.put, List.getElem_toArray, List.getElem_cons_zero, List.getElem_cons_succ, List.setIfInBounds_toArray, List.set_cons_zero, List.set_cons_succ])
      refine wpAnyH_take1 (i := 3) (oi := _) (v := ?_) (by kernel_rfl) rfl (by kernel_rfl) (fun _ _ _ h => h) (Or.inl ⟨by rfl, ?_⟩) (by assumption) ?_
      rotate_left 1
      · intro w hSw; (try dsimp only at hSw); go_simp; (with_reducible rfl)
      (try simp only [Act.put, List.getElem_toArray, List.getElem_cons_zero, List.getElem_cons_succ, List.setIfInBounds_toArray, List.set_cons_zero, List.set_cons_succ])
      have hSk : ∀ W : World, Below w9.heap.size w9 W → _ := fun W hW => (Hkeep hW).out
      refine region_2boxed 23 26 9 10 w9 (reduceL g []) (reduceL g ord) (v1 := u23) (v2 := u26) (sa := undef) (sb := undef) (fun x y a b => #[true, x, true, true, y, a, b, false, false]) 1 4 5 6 (by kernel_rfl) (fun _ _ => rfl) (fun _ _ => rfl) (fun _ _ _ => rfl) (fun _ _ _ => rfl) hSk ?h1 ?h2 ?ha ?hb (by kernel_rfl) ?hend ?hA (Below.drew (Below.refl _ _)) rfl (Nat.le_of_ble_eq_true (by kernel_rfl))
      case hA => simp only [RF2, Act.put, List.setIfInBounds_toArray, List.set_cons_zero, List.set_cons_succ]
      case h1 =>
        rintro a b _ w1 ⟨v1, v2, sa, sb, rfl, hR⟩
        have HR := Lib.hid hR
        clear hR
        refine wpOp_run rfl (by rfl) ?_
        generalize hK : RI2 _ _ _ _ _ w9 _ _ true false a b = K
        have HK := Lib.hid hK
        clear hK
        simp only [RF2, Act.put, List.setIfInBounds_toArray, List.set_cons_zero, List.set_cons_succ, List.getElem_toArray, List.getElem_cons_zero, List.getElem_cons_succ]
        go_simp
        refine (ReduceP_spec (PG.out.at HR.out.bel) hfine (Seq.nil intE (fun _ => True) _)).mono ?_
        rintro e w2 ⟨vv, rfl, hb, hp⟩
        (try dsimp only)
        rw [← HK.out]
        exact ⟨_, v2, sa, sb, by simp only [RF2, Act.put, List.setIfInBounds_toArray, List.set_cons_zero, List.set_cons_succ], HR.out.call1 hb hp⟩
      case h2 =>
        rintro a b _ w1 ⟨v1, v2, sa, sb, rfl, hR⟩
        have HR := Lib.hid hR
        clear hR
        refine wpOp_run rfl (by rfl) ?_
        generalize hK : RI2 _ _ _ _ _ w9 _ _ true true a b = K
        have HK := Lib.hid hK
        clear hK
        simp only [RF2, Act.put, List.setIfInBounds_toArray, List.set_cons_zero, List.set_cons_succ, List.getElem_toArray, List.getElem_cons_zero, List.getElem_cons_succ]
        go_simp
        refine (ReduceP_spec (PG.out.at HR.out.bel) hfine (HT.out.o.at HR.out.bel)).mono ?_
        rintro e w2 ⟨vv, rfl, hb, hp⟩
        (try dsimp only)
        rw [← HK.out]
        exact ⟨v1, _, sa, sb, by simp only [RF2, Act.put, List.setIfInBounds_toArray, List.set_cons_zero, List.set_cons_succ], HR.out.call2 hb hp⟩
      case ha =>
        rintro x y b _ w1 ⟨v1, v2, sa, sb, rfl, hR⟩
        have hN := Lib.hid hR.newA
        clear hR
        refine wpOp_run rfl (by rfl) ?_
        generalize hK : RI2 _ _ _ _ _ w9 _ _ x y true b = K
        have HK := Lib.hid hK
        clear hK
        simp only [RF2, Act.put, List.setIfInBounds_toArray, List.set_cons_zero, List.set_cons_succ, List.getElem_toArray, List.getElem_cons_zero, List.getElem_cons_succ]
        go_simp
        rw [← HK.out]
        exact ⟨v1, v2, _, sb, by simp only [RF2, Act.put, List.setIfInBounds_toArray, List.set_cons_zero, List.set_cons_succ], hN.out⟩
      case hb =>
        rintro x y a _ w1 ⟨v1, v2, sa, sb, rfl, hR⟩
        have hN := Lib.hid hR.newB
        clear hR
        refine wpOp_run rfl (by rfl) ?_
        generalize hK : RI2 _ _ _ _ _ w9 _ _ x y a true = K
        have HK := Lib.hid hK
        clear hK
        simp only [RF2, Act.put, List.setIfInBounds_toArray, List.set_cons_zero, List.set_cons_succ, List.getElem_toArray, List.getElem_cons_zero, List.getElem_cons_succ]
        go_simp
        rw [← HK.out]
        exact ⟨v1, v2, sa, _, by simp only [RF2, Act.put, List.setIfInBounds_toArray, List.set_cons_zero, List.set_cons_succ], hN.out⟩
      case hend =>
        intro v1 v2 Ba Bb w10 hE fuel
        obtain ⟨e1, f1, e2, f2, rfl⟩ := hE.p1.shape
        obtain ⟨e3, f3, e4, f4, rfl⟩ := hE.p2.shape
        have g1 := Lib.hid hE
        clear hE
        have a70 := g1.out.ra.cell (j := 0) (by simp [zP])
        have a71 := g1.out.ra.cell (j := 1) (by simp [zP])
        simp only [zP, List.getElem_cons_zero, List.getElem_cons_succ] at a70 a71
        have f7 := g1.out.ra.frozen
        refine wpAnyH_one (i := 7) (by kernel_rfl) rfl (by rfl) fun K hK => ?_
        (try simp only [RF2, Act.put, List.setIfInBounds_toArray, List.set_cons_zero, List.set_cons_succ, List.getElem_toArray, List.getElem_cons_zero, List.getElem_cons_succ])
        go_simp
        clear f7 a70 a71
        have g7 := Lib.hid (g1.out.setA (p := (.slice e1 (reduceL g []).atoms.length f1)) (q := (.slice e2 (reduceL g []).rules.length f2)))
        refine hK.out _ _ (hSk _ g7.out.bel) fun _ => ?_
        clear hK K
        generalize (((w10).setCell ⟨Ba, 0, none⟩ (.slice e1 (reduceL g []).atoms.length f1)).setCell ⟨Ba, 1, none⟩ (.slice e2 (reduceL g []).rules.length f2)) = w11 at g7 ⊢
        clear g1
        have a80 := g7.out.rb.cell (j := 0) (by simp [zP])
        have a81 := g7.out.rb.cell (j := 1) (by simp [zP])
        simp only [zP, List.getElem_cons_zero, List.getElem_cons_succ] at a80 a81
        have f8 := g7.out.rb.frozen
        refine wpAnyH_one (i := 8) (by kernel_rfl) rfl (by rfl) fun K hK => ?_
        (try simp only [List.getElem_toArray, List.getElem_cons_zero, List.getElem_cons_succ])
        go_simp
        clear f8 a80 a81
        have g8 := Lib.hid (g7.out.setB (p := (.slice e3 (reduceL g ord).atoms.length f3)) (q := (.slice e4 (reduceL g ord).rules.length f4)))
        refine hK.out _ _ (hSk _ g8.out.bel) fun _ => ?_
        clear hK K
        generalize (((w11).setCell ⟨Bb, 0, none⟩ (.slice e3 (reduceL g ord).atoms.length f3)).setCell ⟨Bb, 1, none⟩ (.slice e4 (reduceL g ord).rules.length f4)) = w12 at g8 ⊢
        clear g7
        refine wpAnyH_done (by kernel_rfl) ?_ _
        refine NoPanic.normal ?_
        go_wp2_with fail
        go_meet
        exact ⟨Ba, Bb, _, _, _, _, _, _, rfl, rfl, rfl, rfl, g8.out⟩
    case rest =>
      obtain ⟨B21, B22, v1, v2, p1, q1, p2, q2, rfl, rfl, rfl, rfl, hE⟩ := hcut
      rw [hone.out] at hE
      have hEf : FineP (reduceL g []) := reduceL_fine hfine
      have hEc := Lib.hid (reduce_end g [])
      have hRt : RightP (manyN n) (reduceL g []) := ⟨by rw [reduce_atoms hfine []]; exact HGA.out, by have := (manyN_pos n).2; omega, hEf.rsm, rise_reduce HRISE.out [], hEf.sort⟩
      obtain ⟨E, hEE⟩ : ∃ E, E = reduceL g [] := ⟨_, rfl⟩
      rw [← hEE] at hE hEf hEc hRt
      clear hEE hone
      obtain ⟨e1, f1, e2, f2, s21⟩ := hE.p1.shape
      obtain ⟨e3, f3, e4, f4, s22⟩ := hE.p2.shape
      simp only [Value.agg.injEq, Array.mk.injEq, List.cons.injEq, and_true] at s21 s22
      obtain ⟨rfl, rfl⟩ := s21
      obtain ⟨rfl, rfl⟩ := s22
      obtain ⟨x0, rfl⟩ : ∃ x0, x0 = wc := ⟨_, rfl⟩
      have hb0 := hE.bel
      have HW := Lib.hid (HT.out.bel.trans (hb0.mono HT.out.bel.size))
      have Q21 := Lib.hid hE.ra
      have Q22 := Lib.hid hE.rb
      have P21x := Lib.hid hE.p1
      have P22x := Lib.hid hE.p2
      have Ox := Lib.hid (HT.out.o.at hb0)
      clear Hkeep PG hE hb0
      have hkeep : ∀ {W : World}, Below x0.heap.size x0 W → W.cell? ⟨B21, 0, none⟩ = some (.slice e1 (E.atoms.length) f1) ∧ W.cell? ⟨B21, 1, none⟩ = some (.slice e2 (E.rules.length) f2) ∧ W.cell? ⟨B22, 0, none⟩ = some (.slice e3 (E.atoms.length) f3) ∧ W.cell? ⟨B22, 1, none⟩ = some (.slice e4 (E.rules.length) f4) := fun hW =>
        ⟨(rowTo Q21.out hW).cell (j := 0) (by simp), (rowTo Q21.out hW).cell (j := 1) (by simp), (rowTo Q22.out hW).cell (j := 0) (by simp), (rowTo Q22.out hW).cell (j := 1) (by simp)⟩
      have Hkeep := fun {W : World} (hW : Below x0.heap.size x0 W) => Lib.hid (hkeep hW)
      clear hkeep
      go_upto_region 5 with fail
      go_region_held3 (fun w' => w'.cell? ⟨B21, 0, none⟩ = some (.slice e1 (E.atoms.length) f1) ∧ w'.cell? ⟨B21, 1, none⟩ = some (.slice e2 (E.rules.length) f2) ∧ w'.cell? ⟨B22, 0, none⟩ = some (.slice e3 (E.atoms.length) f3) ∧ w'.cell? ⟨B22, 1, none⟩ = some (.slice e4 (E.rules.length) f4))
        (first | exact (Hkeep Seq.way).out | go_keep)
        (first
            | (go_at_call 16; (with_reducible refine (same_eq (P21x.out.at Seq.way) (P22x.out.at Seq.way)).mono ?_); rintro e x1 ⟨rfl, hx1⟩; have HX1 := below_step hx1 (Seq.way : Below x0.heap.size x0 _); have zx1 := HX1.size)
            | (go_at_call 12; (with_reducible refine (can_end (P21x.out.at Seq.way) hEf hEc.out).mono ?_); rintro e x2 ⟨_, rfl, hx2, ca, cc, rfl⟩; have HX2 := below_step hx2 (Seq.way : Below x0.heap.size x0 _); have zx2 := HX2.size)
            | (go_at_call 17; (with_reducible refine (reduce_end_spec (P21x.out.at Seq.way) hEf hEc.out (Ox.out.at Seq.way)).mono ?_); rintro e x3 ⟨v3, rfl, hx3, hq3⟩; have HX3 := below_step hx3 (Seq.way : Below x0.heap.size x0 _); have zx3 := HX3.size)
            | (go_at_call 16; (with_reducible refine (same_eq (hq3.at Seq.way) (P21x.out.at Seq.way)).mono ?_); rintro e x4 ⟨rfl, hx4⟩; have HX4 := below_step hx4 (Seq.way : Below x0.heap.size x0 _); have zx4 := HX4.size)
            | (go_at_call 22; (with_reducible refine (Right16_spec (P21x.out.at Seq.way) hRt).mono ?_); rintro e x5 ⟨rfl, hx5⟩; have HX5 := below_step hx5 (Seq.way : Below x0.heap.size x0 _); have zx5 := HX5.size))
      all_goals go_wp2_with fail
      refine bodyPost_ret (v := .bool true) (by simp [results, Try.results4, go_sem]) rfl ⟨rfl, HW.out.trans (HX5.mono HW.out.size)⟩
end Go.Proofs.Ytdbennmbbmoflaa
