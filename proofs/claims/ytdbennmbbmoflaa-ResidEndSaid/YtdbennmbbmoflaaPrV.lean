/-
  Layer 18: the walk of ResidModel.
-/
import Derived.Test.YtdbennmbbmoflaaPrT
import Derived.Test.YtdbennmbbmoflaaRmC
namespace Go.Proofs.Ytdbennmbbmoflaa
open Go Go.RowKit

/-- What stands behind the laws' beginning: the program in its box, the order cut. -/
structure OrdM (w wx : World) (B8 : Nat) (va vb v2 : Value) (g : Prog) (order : List Int) : Prop where
  bel : Below w.heap.size w wx
  r : Row 30 wx B8 [va, vb]
  g : ProgV (Fr (fun b => b < w.heap.size) w) wx (.agg #[va, vb]) g
  o : Seq intE (Fr (fun b => b < w.heap.size) w) wx v2 order

set_option maxHeartbeats 8000000 in
set_option maxRecDepth 100000 in
theorem model_walk {w : World} {v0 vo : Value} {l : List Rule} {n : Nat} {order : List Int} (hl : Seq ruleE (fun b => b < w.heap.size) w v0 l) (hn : n < 256) (ho : Seq intE (fun b => b < w.heap.size) w vo order) :
    Calls Try.prog 5 #[v0, .int .u8 n, vo] w (RetV (.bool true) w) := by
  have Hl := Lib.hid hl
  have Ho := Lib.hid ho
  obtain ⟨oa, oc, rfl, hoc, -, hol, -, -⟩ := ho
  obtain ⟨la, lc, rfl, -⟩ := hl
  go_enter Try.func5, Try.ntmps5
  go_wp2_with fail
  refine (head_of doIs (w := w)).mono ?_
  rintro e w1 ⟨rfl, hb1⟩
  have z1 := hb1.size
  go_wp2_with fail
  refine (Made_spec (Hl.out.at hb1) hn).mono ?_
  rintro e w2 ⟨vg, rfl, hb2, hg⟩
  have hB2 : Below w.heap.size w w2 := hb1.trans (hb2.mono z1)
  have z2 := hb2.size
  obtain ⟨ga, gac, gra, grc, rfl⟩ := hg.shape
  have Hg := Lib.hid hg
  have Ho2 := Lib.hid (Ho.out.at hB2)
  clear hg hb1 hb2
  go_upto_region 3 with fail
  go_cut [2, 7, 8] (fun s2 s7 s8 wx => ∃ B8 va vb, s7 = .bool true ∧ s8 = .pointer (some ⟨B8, 0, none⟩) ∧ OrdM w wx B8 va vb s2 (madeL l n) (order.take (min order.length 40)))
  case first =>
    have hown : Own intE (fun b => b < w.heap.size) (w2.heap.size + 1) 3 ((w2.alloc (.cells #[.slice ga (madeL l n).atoms.length gac, .slice gra (madeL l n).rules.length grc] 30)).alloc (.cells #[] 3)) (.slice (some ⟨w2.heap.size + 1, 0, none⟩) 0 0) ([] : List Int) := Own.lit0 (by simp) (by simp) rfl
    have Hown := Lib.hid hown
    clear hown
    by_cases hm : order.length ≤ 40
    · have hm1 : (order.length : Int) ≤ 40 := by omega
      have hmin : order.take (min order.length 40) = order := by rw [show min order.length 40 = order.length by omega, List.take_length]
      have Hs := Lib.hid (Ho2.out.to (w' := ((w2.alloc (.cells #[.slice ga (madeL l n).atoms.length gac, .slice gra (madeL l n).rules.length grc] 30)).alloc (.cells #[] 3))))
      go_wp2_with (at_builtin; refine wpList_appL (wm := ((w2.alloc (.cells #[.slice ga (madeL l n).atoms.length gac, .slice gra (madeL l n).rules.length grc] 30)).alloc (.cells #[] 3))) (zs := order) rfl _ _ 24 rfl Try.underlying24 infoInt rfl rfl Hown.out (Below.refl _ _) rfl Hs.out (fun b h _ => ⟨h, .inl (by omega)⟩) rfl (by omega) (by (first | omega | (rw [List.length_take]; omega))) (by simp) ?_)
      intro ao cap w3 hown3 hkept
      have hb3 : Below w2.heap.size w2 w3 := (Seq.way (w := w2) (w' := ((w2.alloc (.cells #[.slice ga (madeL l n).atoms.length gac, .slice gra (madeL l n).rules.length grc] 30)).alloc (.cells #[] 3)))).trans (hkept.below.mono (by omega))
      have hr3 : Row 30 w3 w2.heap.size [.slice ga (madeL l n).atoms.length gac, .slice gra (madeL l n).rules.length grc] := ((Row.new w2 _ _ rfl).alloc _).below hkept.below (by omega)
      have HB3 := Lib.hid hb3
      have HR3 := Lib.hid hr3
      have HO3 := Lib.hid hown3
      clear hown3 hkept hb3 hr3
      go_wp2_with fail
      go_meet
      refine ⟨_, _, _, rfl, rfl, ⟨hB2.trans (HB3.out.mono hB2.size), HR3.out, (Hg.out.at HB3.out).mono (fun b (h : w1.heap.size ≤ b) _ => .inr (by omega)) fun _ _ _ => rfl, by rw [hmin]; exact HO3.out.seq hol (fun b _ h => h.elim .inl fun h => .inr (by omega))⟩⟩
    · have hm1 : (40 : Int) < order.length := by omega
      have hmin : order.take (min order.length 40) = order.take 40 := by rw [show min order.length 40 = 40 by omega]
      have hoc40 : 40 ≤ oc := by omega
      have Hs := Lib.hid ((Seq.take (Ho2.out.to (w' := ((w2.alloc (.cells #[.slice ga (madeL l n).atoms.length gac, .slice gra (madeL l n).rules.length grc] 30)).alloc (.cells #[] 3)))) (j := 40) (by omega)))
      go_wp2_with (at_builtin; refine wpList_appL (wm := ((w2.alloc (.cells #[.slice ga (madeL l n).atoms.length gac, .slice gra (madeL l n).rules.length grc] 30)).alloc (.cells #[] 3))) (zs := order.take 40) rfl _ _ 24 rfl Try.underlying24 infoInt rfl rfl Hown.out (Below.refl _ _) rfl Hs.out (fun b h _ => ⟨h, .inl (by omega)⟩) rfl (by omega) (by (first | omega | (rw [List.length_take]; omega))) (by simp) ?_)
      intro ao cap w3 hown3 hkept
      have hb3 : Below w2.heap.size w2 w3 := (Seq.way (w := w2) (w' := ((w2.alloc (.cells #[.slice ga (madeL l n).atoms.length gac, .slice gra (madeL l n).rules.length grc] 30)).alloc (.cells #[] 3)))).trans (hkept.below.mono (by omega))
      have hr3 : Row 30 w3 w2.heap.size [.slice ga (madeL l n).atoms.length gac, .slice gra (madeL l n).rules.length grc] := ((Row.new w2 _ _ rfl).alloc _).below hkept.below (by omega)
      have HB3 := Lib.hid hb3
      have HR3 := Lib.hid hr3
      have HO3 := Lib.hid hown3
      clear hown3 hkept hb3 hr3
      go_wp2_with fail
      go_meet
      refine ⟨_, _, _, rfl, rfl, ⟨hB2.trans (HB3.out.mono hB2.size), HR3.out, (Hg.out.at HB3.out).mono (fun b (h : w1.heap.size ≤ b) _ => .inr (by omega)) fun _ _ _ => rfl, by rw [hmin]; exact HO3.out.seq (by rw [List.length_take]; omega) (fun b _ h => h.elim .inl fun h => .inr (by omega))⟩⟩
  case rest =>
    obtain ⟨B8, va, vb, rfl, rfl, HM⟩ := hcut
    clear Ho2 Hg z2 hB2 z1 Hl Ho
    obtain ⟨g, hgm⟩ : ∃ g, g = madeL l n := ⟨_, rfl⟩
    have hfine : FineP g := by rw [hgm]; exact madeL_fine l n
    rw [← hgm] at HM
    clear hgm
    generalize order.take (min order.length 40) = ord at HM
    obtain ⟨aa, ac, ra, rc, hsh⟩ := HM.g.shape
    simp only [Value.agg.injEq, Array.mk.injEq, List.cons.injEq, and_true] at hsh
    obtain ⟨rfl, rfl⟩ := hsh
    obtain ⟨w4, rfl⟩ : ∃ w4, w4 = wc := ⟨_, rfl⟩
    have HT := Lib.hid HM
    have hkeep : ∀ {W : World}, Below w4.heap.size w4 W → W.cell? ⟨B8, 0, none⟩ = some (.slice aa g.atoms.length ac) ∧ W.cell? ⟨B8, 1, none⟩ = some (.slice ra g.rules.length rc) := fun hW =>
      ⟨(rowTo HT.out.r hW).cell (j := 0) (by simp), (rowTo HT.out.r hW).cell (j := 1) (by simp)⟩
    have Hkeep := fun {W : World} (hW : Below w4.heap.size w4 W) => Lib.hid (hkeep hW)
    clear hkeep HM
    go_upto_region 4 with fail
    have hlaw := Lib.hid (model_law hfine.toGoodP hfine.sort ord)
    go_region_held3 (fun w' => w'.cell? ⟨B8, 0, none⟩ = some (.slice aa g.atoms.length ac) ∧ w'.cell? ⟨B8, 1, none⟩ = some (.slice ra g.rules.length rc))
      (first | exact (Hkeep Seq.way).out | go_keep)
      (first
        | (go_at_call 17; (with_reducible refine (ReduceP_spec (HT.out.g.at Seq.way) hfine (HT.out.o.at Seq.way)).mono ?_); rintro e x1 ⟨v1, rfl, hx1, hq1⟩; have HX1 := below_step hx1 (Seq.way : Below w4.heap.size w4 _); have zx1 := HX1.size)
        | (go_at_call 20; (with_reducible refine (TruthP_spec (hq1.at Seq.way) (reduceL_fine hfine)).mono ?_); rintro e x2 ⟨v2, rfl, hx2, hq2⟩; have HX2 := below_step hx2 (Seq.way : Below w4.heap.size w4 _); have zx2 := HX2.size)
        | (go_at_call 23; (with_reducible refine (Model_spec (HT.out.g.at Seq.way) hfine.toGoodP).mono ?_); rintro e x3 ⟨v3, rfl, hx3, hq3⟩; have HX3 := below_step hx3 (Seq.way : Below w4.heap.size w4 _); have zx3 := HX3.size)
        | (go_at_call 19; refine (ints_eq (hq2.at Seq.way) (by rw [hlaw.out]; exact hq3.at Seq.way)).mono ?_; rintro e x4 ⟨rfl, hx4⟩; have HX4 := below_step hx4 (Seq.way : Below w4.heap.size w4 _)))
    all_goals go_wp2_with fail
    refine bodyPost_ret (v := .bool true) (by simp [results, Try.results5, go_sem]) rfl ⟨rfl, HT.out.bel.trans (HX4.mono HT.out.bel.size)⟩
end Go.Proofs.Ytdbennmbbmoflaa
