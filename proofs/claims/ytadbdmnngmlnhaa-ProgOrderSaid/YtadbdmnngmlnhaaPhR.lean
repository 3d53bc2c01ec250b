/-
  Layer 7, the law's live questions: what their answers are, in plain Lean.
  Layer 7, the law's live questions.
-/
import Derived.Test.YtadbdmnngmlnhaaPhN
import Derived.Test.YtadbdmnngmlnhaaPgL
import Derived.Test.YtadbdmnngmlnhaaPgC
import Derived.Test.YtadbdmnngmlnhaaPhJ
import Derived.Test.YtadbdmnngmlnhaaPhM
import Derived.Test.YtadbdmnngmlnhaaPgP
import Derived.BigQuiet
namespace Go.Proofs.Ytadbdmnngmlnhaa
section
open Go

def hdA : Cls := ⟨atomL ⟨#[112]⟩ 0, [⟨false, atomL ⟨#[113]⟩ 0⟩, ⟨true, atomL ⟨#[114]⟩ 0⟩]⟩
def hdB : Cls := ⟨atomL ⟨#[112]⟩ 0, [⟨true, atomL ⟨#[114]⟩ 0⟩, ⟨false, atomL ⟨#[113]⟩ 0⟩]⟩
def hdC : Cls := ⟨atomL ⟨#[97]⟩ (-1), [⟨true, atomL ⟨#[98]⟩ (-1)⟩]⟩
def hdD : Cls := ⟨atomL ⟨#[98]⟩ (-1), [⟨true, atomL ⟨#[97]⟩ (-1)⟩]⟩
def hdE : Cls := ⟨atomL ⟨#[112]⟩ 3, []⟩
def hdF : Cls := ⟨atomL ⟨#[112]⟩ (-1), []⟩
theorem hd_may1 : mayC hdA = true := by decide +kernel
theorem hd_may2 : mayC hdC = true := by decide +kernel
theorem hd_may3 : mayC hdD = true := by decide +kernel
theorem hd_safeA : safeC hdA = true := by decide +kernel
theorem hd_safeB : safeC hdB = false := by decide +kernel
theorem hd_safeE : safeC hdE = false := by decide +kernel
theorem hd_safeF : safeC hdF = true := by decide +kernel
theorem hd_rightA : rightC [hdA] = true := by decide +kernel
theorem hd_rightAB : rightC [hdA, hdB] = false := by decide +kernel
theorem hd_preds : predsL [hdA] = [⟨⟨#[112]⟩, 1⟩, ⟨⟨#[113]⟩, 1⟩, ⟨⟨#[114]⟩, 1⟩] := by decide +kernel
theorem hd_links : linksL [hdA] = [⟨0, 1, false⟩, ⟨0, 2, true⟩] := by decide +kernel
theorem hd_predsN : (predsL [hdC, hdD]).length = 2 := by decide +kernel
theorem hd_linksN : linksL [hdC, hdD] = [⟨0, 1, true⟩, ⟨1, 0, true⟩] := by decide +kernel
theorem hd_of : ofL [hdC, hdA, hdC] ⟨⟨#[97]⟩, 0⟩ = [0, 2] := by decide +kernel
theorem hd_lev {is : Bool} {m : List Nat} (h : LevT (linksL [hdA]) (predsL [hdA]).length is m) : is = true ∧ m = [1, 0, 0] := by
  have h1 : LevT (linksL [hdA]) (predsL [hdA]).length true [1, 0, 0] := by
    rw [hd_links, hd_preds]
    refine .inl ⟨rfl, rfl, ?_, fun i hi => ?_⟩
    · unfold Sol; decide
    · have hi3 : i < 3 := hi
      rcases (show i = 0 ∨ i = 1 ∨ i = 2 by omega) with rfl | rfl | rfl
      · exact Wit.step (v := 0) (k := ⟨0, 2, true⟩) (by simp) (Wit.zero 2)
      · exact Wit.zero 1
      · exact Wit.zero 2
  exact levT_ext h h1
theorem hd_levN {is : Bool} {m : List Nat} (h : LevT (linksL [hdC, hdD]) (predsL [hdC, hdD]).length is m) : is = false := by
  have h1 : LevT (linksL [hdC, hdD]) (predsL [hdC, hdD]).length false [] := by
    rw [hd_linksN]
    exact .inr ⟨rfl, ⟨⟨0, 1, true⟩, by simp, rfl, Rch.one (k := ⟨1, 0, true⟩) (by simp)⟩, rfl⟩
  exact (levT_ext h h1).1
theorem hd_may4 : ∀ c ∈ [hdA], mayC c = true := fun c hc => by rw [List.mem_singleton] at hc; subst hc; exact hd_may1
theorem hd_may5 : ∀ c ∈ [hdC, hdD], mayC c = true := fun c hc => by
  rcases List.mem_cons.1 hc with rfl | hc
  · exact hd_may2
  · rw [List.mem_singleton] at hc; subst hc; exact hd_may3
theorem hd_may6 : ∀ c ∈ [hdC, hdA, hdC], mayC c = true := fun c hc => by
  rcases List.mem_cons.1 hc with rfl | hc
  · exact hd_may2
  · rcases List.mem_cons.1 hc with rfl | hc
    · exact hd_may1
    · rw [List.mem_singleton] at hc; subst hc; exact hd_may2
end
section
open Go Go.RowKit

/-- A clause in a box. -/
def BoxC (w : World) (b : Nat) (vh vb : Value) (c : Cls) : Prop := w.cell? ⟨b, 0, none⟩ = some vh ∧ w.cell? ⟨b, 1, none⟩ = some vb ∧ b < w.heap.size ∧ Seq cellE (fun _ => True) w vh c.head ∧ Seq litE (fun _ => True) w vb c.body
theorem BoxC.at {w w' : World} {b : Nat} {vh vb : Value} {c : Cls} (h : BoxC w b vh vb c) (hb : Below w.heap.size w w') : BoxC w' b vh vb c :=
  ⟨(hb.cell (p := ⟨b, 0, none⟩) h.2.2.1).trans h.1, (hb.cell (p := ⟨b, 1, none⟩) h.2.2.1).trans h.2.1, Nat.lt_of_lt_of_le h.2.2.1 hb.size, h.2.2.2.1.at hb, h.2.2.2.2.at hb⟩
theorem boxC_two {w : World} {vh v1 v2 : Value} {t : List Cell} {b1 b2 : Lit} (hh : Seq cellE (fun _ => True) w vh t) (h1 : Seq cellE (fun _ => True) w v1 b1.t) (h2 : Seq cellE (fun _ => True) w v2 b2.t) {n1 n2 : Bool} (e1 : n1 = b1.neg) (e2 : n2 = b2.neg) {B : Nat} (hB : B = w.heap.size + 1) :
    BoxC ((w.alloc (.cells #[.bool n1, v1, .bool n2, v2] 47)).alloc (.cells #[vh, .slice (some ⟨w.heap.size, 0, none⟩) 2 2] 31)) B vh (.slice (some ⟨w.heap.size, 0, none⟩) 2 2) ⟨t, [b1, b2]⟩ := by
  subst e1; subst e2; subst hB
  have r1 := Row.new (w.alloc (.cells #[.bool b1.neg, v1, .bool b2.neg, v2] 47)) [vh, .slice (some ⟨w.heap.size, 0, none⟩) 2 2] 31 (B := w.heap.size + 1) (by simp)
  have r2 : Row 47 (w.alloc (.cells #[.bool b1.neg, v1, .bool b2.neg, v2] 47)) w.heap.size (pairs2 [(.bool b1.neg, v1), (.bool b2.neg, v2)]) := Row.new w [_, _, _, _] _ rfl
  refine ⟨r1.cell (j := 0) (by simp), r1.cell (j := 1) (by simp), r1.lt, hh.at Seq.way, ?_⟩
  refine (seq_lits (S := fun _ => True) (bs := [b1, b2]) r2 rfl (show 2 ≤ 1000 by decide) trivial fun k b hk => ?_).at Seq.way
  match k, hk with
  | 0, hk => obtain rfl := Option.some.inj hk; exact ⟨v1, rfl, h1.at Seq.way⟩
  | 1, hk => obtain rfl := Option.some.inj hk; exact ⟨v2, rfl, h2.at Seq.way⟩
theorem boxC_one {w : World} {vh v1 : Value} {t : List Cell} {b1 : Lit} (hh : Seq cellE (fun _ => True) w vh t) (h1 : Seq cellE (fun _ => True) w v1 b1.t) {n1 : Bool} (e1 : n1 = b1.neg) {B : Nat} (hB : B = w.heap.size + 1) :
    BoxC ((w.alloc (.cells #[.bool n1, v1] 47)).alloc (.cells #[vh, .slice (some ⟨w.heap.size, 0, none⟩) 1 1] 31)) B vh (.slice (some ⟨w.heap.size, 0, none⟩) 1 1) ⟨t, [b1]⟩ := by
  subst e1; subst hB
  have r1 := Row.new (w.alloc (.cells #[.bool b1.neg, v1] 47)) [vh, .slice (some ⟨w.heap.size, 0, none⟩) 1 1] 31 (B := w.heap.size + 1) (by simp)
  have r2 : Row 47 (w.alloc (.cells #[.bool b1.neg, v1] 47)) w.heap.size (pairs2 [(.bool b1.neg, v1)]) := Row.new w [_, _] _ rfl
  refine ⟨r1.cell (j := 0) (by simp), r1.cell (j := 1) (by simp), r1.lt, hh.at Seq.way, ?_⟩
  refine (seq_lits (S := fun _ => True) (bs := [b1]) r2 rfl (show 1 ≤ 1000 by decide) trivial fun k b hk => ?_).at Seq.way
  match k, hk with
  | 0, hk => obtain rfl := Option.some.inj hk; exact ⟨v1, rfl, h1.at Seq.way⟩
theorem BoxC.clsV {w : World} {b : Nat} {vh vb : Value} {c : Cls} (h : BoxC w b vh vb c) : ClsV (fun _ => True) w (.agg #[vh, vb]) c := by
  obtain ⟨-, -, -, h1, h2⟩ := h
  obtain ⟨ha, hc, rfl, -⟩ := id h1
  obtain ⟨la, lc, rfl, -⟩ := id h2
  exact ⟨ha, hc, la, lc, rfl, h1, h2⟩

theorem nOK (a : Int) (h : -1000 ≤ a ∧ a ≤ 1000) : IntOK a := ⟨by omega, by omega⟩
set_option maxHeartbeats 12800000 in
set_option maxRecDepth 100000 in
theorem head_spec {w : World} : Calls Try.prog 11 #[] w (RetV (.bool true) w) := by
  go_enter Try.func11, Try.ntmps11
  go_wp2_with fail
  refine (atomLw_spec (by decide) (nOK 0 (by omega))).mono ?_
  rintro e w1 ⟨v1, rfl, hb1, hs1⟩
  obtain ⟨a1, c1, rfl⟩ := hs1.shape
  have S1 := Lib.hid hs1
  have B1 := Lib.hid hb1
  clear hs1 hb1
  go_wp2_with fail
  refine (atomLw_spec (by decide) (nOK 0 (by omega))).mono ?_
  rintro e w2 ⟨v2, rfl, hb2, hs2⟩
  obtain ⟨a2, c2, rfl⟩ := hs2.shape
  have S2 := Lib.hid hs2
  have B2 := Lib.hid hb2
  clear hs2 hb2
  go_wp2_with fail
  refine (atomLw_spec (by decide) (nOK 0 (by omega))).mono ?_
  rintro e w3 ⟨v3, rfl, hb3, hs3⟩
  obtain ⟨a3, c3, rfl⟩ := hs3.shape
  have S3 := Lib.hid hs3
  have B3 := Lib.hid hb3
  clear hs3 hb3
  go_upto_region 2 with fail
  obtain ⟨X1, hX1⟩ : ∃ X, X = (w3.alloc (.cells #[.bool false, (.slice a2 (atomL ⟨#[113]⟩ 0).length c2), .bool true, (.slice a3 (atomL ⟨#[114]⟩ 0).length c3)] 47)).alloc (.cells #[(.slice a1 (atomL ⟨#[112]⟩ 0).length c1), .slice (some ⟨w3.heap.size, 0, none⟩) 2 2] 31) := ⟨_, rfl⟩
  have hK1 : BoxC X1 (w3.heap.size + 1) (.slice a1 (atomL ⟨#[112]⟩ 0).length c1) (.slice (some ⟨w3.heap.size, 0, none⟩) 2 2) hdA := by
    rw [hX1]
    exact boxC_two (b1 := ⟨false, (atomL ⟨#[113]⟩ 0)⟩) (b2 := ⟨true, (atomL ⟨#[114]⟩ 0)⟩) (S1.out.at (below_step B3.out B2.out)) (S2.out.at (B3.out)) S3.out rfl rfl rfl
  have hY1 : Below w.heap.size w X1 := by
    rw [hX1]
    exact below_step Seq.way (below_step (below_step (B3.out) B2.out) B1.out)
  rw [← hX1]
  obtain ⟨q1, hq1⟩ : ∃ b, b = w3.heap.size + 1 := ⟨_, rfl⟩
  obtain ⟨g1, hg1⟩ : ∃ b, b = w3.heap.size := ⟨_, rfl⟩
  simp only [← hq1] at hK1 ⊢
  simp only [← hg1] at hK1 ⊢
  have K1 := Lib.hid hK1
  have Y1 := Lib.hid hY1
  obtain ⟨x1, hx1⟩ : ∃ v, v = Value.slice a1 (atomL ⟨#[112]⟩ 0).length c1 := ⟨_, rfl⟩
  obtain ⟨z1, hz1⟩ : ∃ v, v = Value.slice (some ⟨g1, 0, none⟩) 2 2 := ⟨_, rfl⟩
  rw [← hx1, ← hz1] at K1
  have E1 := Lib.hid (show x1 = _ ∧ z1 = _ from ⟨hx1, hz1⟩)
  clear hX1 hK1 hY1 hq1 hg1 hx1 hz1
  clear S1 B1 S2 B2 S3 B3
  go_wp2_with fail
  refine (atomLw_spec (by decide) (nOK 0 (by omega))).mono ?_
  rintro e w4 ⟨v4, rfl, hb4, hs4⟩
  obtain ⟨a4, c4, rfl⟩ := hs4.shape
  have S4 := Lib.hid hs4
  have B4 := Lib.hid hb4
  clear hs4 hb4
  go_wp2_with fail
  refine (atomLw_spec (by decide) (nOK 0 (by omega))).mono ?_
  rintro e w5 ⟨v5, rfl, hb5, hs5⟩
  obtain ⟨a5, c5, rfl⟩ := hs5.shape
  have S5 := Lib.hid hs5
  have B5 := Lib.hid hb5
  clear hs5 hb5
  go_wp2_with fail
  refine (atomLw_spec (by decide) (nOK 0 (by omega))).mono ?_
  rintro e w6 ⟨v6, rfl, hb6, hs6⟩
  obtain ⟨a6, c6, rfl⟩ := hs6.shape
  have S6 := Lib.hid hs6
  have B6 := Lib.hid hb6
  clear hs6 hb6
  go_upto_region 3 with fail
  obtain ⟨X2, hX2⟩ : ∃ X, X = (w6.alloc (.cells #[.bool true, (.slice a5 (atomL ⟨#[114]⟩ 0).length c5), .bool false, (.slice a6 (atomL ⟨#[113]⟩ 0).length c6)] 47)).alloc (.cells #[(.slice a4 (atomL ⟨#[112]⟩ 0).length c4), .slice (some ⟨w6.heap.size, 0, none⟩) 2 2] 31) := ⟨_, rfl⟩
  have hK2 : BoxC X2 (w6.heap.size + 1) (.slice a4 (atomL ⟨#[112]⟩ 0).length c4) (.slice (some ⟨w6.heap.size, 0, none⟩) 2 2) hdB := by
    rw [hX2]
    exact boxC_two (b1 := ⟨true, (atomL ⟨#[114]⟩ 0)⟩) (b2 := ⟨false, (atomL ⟨#[113]⟩ 0)⟩) (S4.out.at (below_step B6.out B5.out)) (S5.out.at (B6.out)) S6.out rfl rfl rfl
  have hY2 : Below X1.heap.size X1 X2 := by
    rw [hX2]
    exact below_step Seq.way (below_step (below_step (B6.out) B5.out) B4.out)
  rw [← hX2]
  obtain ⟨q2, hq2⟩ : ∃ b, b = w6.heap.size + 1 := ⟨_, rfl⟩
  obtain ⟨g2, hg2⟩ : ∃ b, b = w6.heap.size := ⟨_, rfl⟩
  simp only [← hq2] at hK2 ⊢
  simp only [← hg2] at hK2 ⊢
  have K2 := Lib.hid hK2
  have Y2 := Lib.hid hY2
  obtain ⟨x2, hx2⟩ : ∃ v, v = Value.slice a4 (atomL ⟨#[112]⟩ 0).length c4 := ⟨_, rfl⟩
  obtain ⟨z2, hz2⟩ : ∃ v, v = Value.slice (some ⟨g2, 0, none⟩) 2 2 := ⟨_, rfl⟩
  rw [← hx2, ← hz2] at K2
  have E2 := Lib.hid (show x2 = _ ∧ z2 = _ from ⟨hx2, hz2⟩)
  clear hX2 hK2 hY2 hq2 hg2 hx2 hz2
  clear S4 B4 S5 B5 S6 B6
  go_wp2_with fail
  refine (atomLw_spec (by decide) (nOK (-1) (by omega))).mono ?_
  rintro e w7 ⟨v7, rfl, hb7, hs7⟩
  obtain ⟨a7, c7, rfl⟩ := hs7.shape
  have S7 := Lib.hid hs7
  have B7 := Lib.hid hb7
  clear hs7 hb7
  go_wp2_with fail
  refine (atomLw_spec (by decide) (nOK (-1) (by omega))).mono ?_
  rintro e w8 ⟨v8, rfl, hb8, hs8⟩
  obtain ⟨a8, c8, rfl⟩ := hs8.shape
  have S8 := Lib.hid hs8
  have B8 := Lib.hid hb8
  clear hs8 hb8
  go_upto_region 4 with fail
  obtain ⟨X3, hX3⟩ : ∃ X, X = (w8.alloc (.cells #[.bool true, (.slice a8 (atomL ⟨#[98]⟩ (-1)).length c8)] 47)).alloc (.cells #[(.slice a7 (atomL ⟨#[97]⟩ (-1)).length c7), .slice (some ⟨w8.heap.size, 0, none⟩) 1 1] 31) := ⟨_, rfl⟩
  have hK3 : BoxC X3 (w8.heap.size + 1) (.slice a7 (atomL ⟨#[97]⟩ (-1)).length c7) (.slice (some ⟨w8.heap.size, 0, none⟩) 1 1) hdC := by
    rw [hX3]
    exact boxC_one (b1 := ⟨true, (atomL ⟨#[98]⟩ (-1))⟩) (S7.out.at (B8.out)) S8.out rfl rfl
  have hY3 : Below X2.heap.size X2 X3 := by
    rw [hX3]
    exact below_step Seq.way (below_step (B8.out) B7.out)
  rw [← hX3]
  obtain ⟨q3, hq3⟩ : ∃ b, b = w8.heap.size + 1 := ⟨_, rfl⟩
  obtain ⟨g3, hg3⟩ : ∃ b, b = w8.heap.size := ⟨_, rfl⟩
  simp only [← hq3] at hK3 ⊢
  simp only [← hg3] at hK3 ⊢
  have K3 := Lib.hid hK3
  have Y3 := Lib.hid hY3
  obtain ⟨x3, hx3⟩ : ∃ v, v = Value.slice a7 (atomL ⟨#[97]⟩ (-1)).length c7 := ⟨_, rfl⟩
  obtain ⟨z3, hz3⟩ : ∃ v, v = Value.slice (some ⟨g3, 0, none⟩) 1 1 := ⟨_, rfl⟩
  rw [← hx3, ← hz3] at K3
  have E3 := Lib.hid (show x3 = _ ∧ z3 = _ from ⟨hx3, hz3⟩)
  clear hX3 hK3 hY3 hq3 hg3 hx3 hz3
  clear S7 B7 S8 B8
  go_wp2_with fail
  refine (atomLw_spec (by decide) (nOK (-1) (by omega))).mono ?_
  rintro e w9 ⟨v9, rfl, hb9, hs9⟩
  obtain ⟨a9, c9, rfl⟩ := hs9.shape
  have S9 := Lib.hid hs9
  have B9 := Lib.hid hb9
  clear hs9 hb9
  go_wp2_with fail
  refine (atomLw_spec (by decide) (nOK (-1) (by omega))).mono ?_
  rintro e w10 ⟨v10, rfl, hb10, hs10⟩
  obtain ⟨a10, c10, rfl⟩ := hs10.shape
  have S10 := Lib.hid hs10
  have B10 := Lib.hid hb10
  clear hs10 hb10
  go_upto_region 5 with fail
  obtain ⟨X4, hX4⟩ : ∃ X, X = (w10.alloc (.cells #[.bool true, (.slice a10 (atomL ⟨#[97]⟩ (-1)).length c10)] 47)).alloc (.cells #[(.slice a9 (atomL ⟨#[98]⟩ (-1)).length c9), .slice (some ⟨w10.heap.size, 0, none⟩) 1 1] 31) := ⟨_, rfl⟩
  have hK4 : BoxC X4 (w10.heap.size + 1) (.slice a9 (atomL ⟨#[98]⟩ (-1)).length c9) (.slice (some ⟨w10.heap.size, 0, none⟩) 1 1) hdD := by
    rw [hX4]
    exact boxC_one (b1 := ⟨true, (atomL ⟨#[97]⟩ (-1))⟩) (S9.out.at (B10.out)) S10.out rfl rfl
  have hY4 : Below X3.heap.size X3 X4 := by
    rw [hX4]
    exact below_step Seq.way (below_step (B10.out) B9.out)
  rw [← hX4]
  obtain ⟨q4, hq4⟩ : ∃ b, b = w10.heap.size + 1 := ⟨_, rfl⟩
  obtain ⟨g4, hg4⟩ : ∃ b, b = w10.heap.size := ⟨_, rfl⟩
  simp only [← hq4] at hK4 ⊢
  simp only [← hg4] at hK4 ⊢
  have K4 := Lib.hid hK4
  have Y4 := Lib.hid hY4
  obtain ⟨x4, hx4⟩ : ∃ v, v = Value.slice a9 (atomL ⟨#[98]⟩ (-1)).length c9 := ⟨_, rfl⟩
  obtain ⟨z4, hz4⟩ : ∃ v, v = Value.slice (some ⟨g4, 0, none⟩) 1 1 := ⟨_, rfl⟩
  rw [← hx4, ← hz4] at K4
  have E4 := Lib.hid (show x4 = _ ∧ z4 = _ from ⟨hx4, hz4⟩)
  clear hX4 hK4 hY4 hq4 hg4 hx4 hz4
  clear S9 B9 S10 B10
  have J4 := K4
  have J3 := Lib.hid (K3.out.at Y4.out)
  have J2 := Lib.hid (K2.out.at (below_step Y4.out Y3.out))
  have J1 := Lib.hid (K1.out.at (below_step (below_step Y4.out Y3.out) Y2.out))
  have YY := Lib.hid (below_step (below_step (below_step Y4.out Y3.out) Y2.out) Y1.out)
  clear K1 K2 K3 K4 Y1 Y2 Y3 Y4 E1 E2 E3 E4
  obtain ⟨m0, m1, -, -, -⟩ := J1.out
  go_upto_region 6 with fail
  obtain ⟨X5, hX5⟩ : ∃ X, X = X4.alloc (.cells #[x1, z1] 31) := ⟨_, rfl⟩
  obtain ⟨q5, hq5⟩ : ∃ b, b = X4.heap.size := ⟨_, rfl⟩
  have hL : Seq clsE (fun _ => True) X5 (.slice (some ⟨q5, 0, none⟩) 1 1) [hdA] := by
    rw [hX5, hq5]
    refine seq_clss (show Row 31 _ X4.heap.size (pairs2 [(x1, z1)]) from Row.new X4 [_, _] _ rfl) rfl (show 1 ≤ 1000 by decide) trivial fun k c hk => ?_
    match k, hk with
    | 0, hk => obtain rfl := Option.some.inj hk; exact ⟨x1, z1, rfl, J1.out.2.2.2.1.at Seq.way, J1.out.2.2.2.2.at Seq.way⟩
  have hY5 : Below X4.heap.size X4 X5 := by rw [hX5]; exact Seq.way
  rw [← hX5, ← hq5]
  have HL := Lib.hid hL
  have Y5 := Lib.hid hY5
  clear hX5 hq5 hL hY5 m0 m1
  go_wp2_with fail
  refine (PredsP_spec HL.out hd_may4 (show 1 ≤ 1000 by decide)).mono ?_
  rintro e y6 ⟨r6, rfl, hb6, hs6⟩
  rw [hd_preds] at hs6
  obtain ⟨a60, c60, rfl⟩ := hs6.shape
  have P6 := Lib.hid hs6
  have B6 := Lib.hid hb6
  clear hs6 hb6
  go_wp2_with fail
  refine (LinksP_spec (HL.out.at B6.out) hd_may4 (show 1 ≤ 1000 by decide)).mono ?_
  rintro e y7 ⟨r7, rfl, hb7, hs7⟩
  rw [hd_links] at hs7
  obtain ⟨a70, c70, rfl⟩ := hs7.shape
  have P7 := Lib.hid hs7
  have B7 := Lib.hid hb7
  clear hs7 hb7
  go_wp2_with fail
  refine (LevelsP_spec (HL.out.at (below_step B7.out B6.out)) hd_may4 (show 1 ≤ 1000 by decide)).mono ?_
  rintro e y8 ⟨r8, is8, m8, rfl, hb8, hlev, hs8⟩
  obtain ⟨rfl, rfl⟩ := hd_lev hlev
  obtain ⟨a80, c80, rfl⟩ := hs8.shape
  have P8 := Lib.hid hs8
  have B8 := Lib.hid hb8
  clear hs8 hb8 hlev
  have W8 := Lib.hid (below_step (below_step (below_step B8.out B7.out) B6.out) Y5.out)
  obtain ⟨m0, m1, -, -, -⟩ := (J3.out.at W8.out)
  obtain ⟨m2, m3, -, -, -⟩ := (J4.out.at W8.out)
  have HL9 := Lib.hid (show Seq clsE (fun _ => True) (y8.alloc (.cells #[x3, z3, x4, z4] 31)) (.slice (some ⟨y8.heap.size, 0, none⟩) 2 2) [hdC, hdD] from seq_clss (show Row 31 _ y8.heap.size (pairs2 [(x3, z3), (x4, z4)]) from Row.new y8 [_, _, _, _] _ rfl) rfl (show 2 ≤ 1000 by decide) trivial fun k c hk => by
    match k, hk with
    | 0, hk => obtain rfl := Option.some.inj hk; exact ⟨x3, z3, rfl, (J3.out.at W8.out).2.2.2.1.at Seq.way, (J3.out.at W8.out).2.2.2.2.at Seq.way⟩
    | 1, hk => obtain rfl := Option.some.inj hk; exact ⟨x4, z4, rfl, (J4.out.at W8.out).2.2.2.1.at Seq.way, (J4.out.at W8.out).2.2.2.2.at Seq.way⟩)
  go_wp2_with fail
  refine (LevelsP_spec HL9.out hd_may5 (show 2 ≤ 1000 by decide)).mono ?_
  rintro e y9 ⟨r9, is9, m9, rfl, hb9, hlev, hs9⟩
  obtain rfl := hd_levN hlev
  obtain ⟨a90, c90, rfl⟩ := hs9.shape
  have B9 := Lib.hid (below_step hb9 (Seq.way : Below y8.heap.size y8 _))
  have W9 := Lib.hid (below_step B9.out W8.out)
  clear hs9 hb9 hlev m0 m1 m2 m3
  obtain ⟨m0, m1, -, -, -⟩ := (J3.out.at W9.out)
  obtain ⟨m2, m3, -, -, -⟩ := (J1.out.at W9.out)
  have HL10 := Lib.hid (show Seq clsE (fun _ => True) (y9.alloc (.cells #[x3, z3, x1, z1, x3, z3] 31)) (.slice (some ⟨y9.heap.size, 0, none⟩) 3 3) [hdC, hdA, hdC] from seq_clss (show Row 31 _ y9.heap.size (pairs2 [(x3, z3), (x1, z1), (x3, z3)]) from Row.new y9 [_, _, _, _, _, _] _ rfl) rfl (show 3 ≤ 1000 by decide) trivial fun k c hk => by
    match k, hk with
    | 0, hk => obtain rfl := Option.some.inj hk; exact ⟨x3, z3, rfl, (J3.out.at W9.out).2.2.2.1.at Seq.way, (J3.out.at W9.out).2.2.2.2.at Seq.way⟩
    | 1, hk => obtain rfl := Option.some.inj hk; exact ⟨x1, z1, rfl, (J1.out.at W9.out).2.2.2.1.at Seq.way, (J1.out.at W9.out).2.2.2.2.at Seq.way⟩
    | 2, hk => obtain rfl := Option.some.inj hk; exact ⟨x3, z3, rfl, (J3.out.at W9.out).2.2.2.1.at Seq.way, (J3.out.at W9.out).2.2.2.2.at Seq.way⟩)
  go_wp2_with fail
  refine (OfP_spec (p := ⟨⟨#[97]⟩, 0⟩) HL10.out hd_may6 (show 3 ≤ 1000 by decide)).mono ?_
  rintro e y10 ⟨r10, rfl, hb10, hs10⟩
  rw [hd_of] at hs10
  obtain ⟨a100, c100, rfl⟩ := hs10.shape
  have P10 := Lib.hid hs10
  have B10 := Lib.hid (below_step hb10 (Seq.way : Below y9.heap.size y9 _))
  have W10 := Lib.hid (below_step B10.out W9.out)
  clear hs10 hb10 m0 m1 m2 m3
  obtain ⟨m0, m1, -, -, -⟩ := (J1.out.at W10.out)
  go_wp2_with fail
  refine (SafeP_spec (J1.out.at (below_step Seq.way W10.out)).clsV).mono ?_
  rw [hd_safeA]
  rintro e y11 ⟨rfl, hb11⟩
  have B11 := Lib.hid (below_step hb11 (Seq.way : Below y10.heap.size y10 _))
  have W11 := Lib.hid (below_step B11.out W10.out)
  clear hb11 m0 m1
  obtain ⟨m0, m1, -, -, -⟩ := (J2.out.at W11.out)
  go_wp2_with fail
  refine (SafeP_spec (J2.out.at (below_step Seq.way W11.out)).clsV).mono ?_
  rw [hd_safeB]
  rintro e y12 ⟨rfl, hb12⟩
  have B12 := Lib.hid (below_step hb12 (Seq.way : Below y11.heap.size y11 _))
  have W12 := Lib.hid (below_step B12.out W11.out)
  clear hb12 m0 m1
  go_wp2_with fail
  refine (RightP07_spec (HL.out.at (below_step Seq.way (below_step B12.out (below_step B11.out (below_step B10.out (below_step B9.out (below_step B8.out (below_step B7.out B6.out))))))))).mono ?_
  rw [hd_rightA]
  rintro e y13 ⟨rfl, hb13⟩
  have B13 := Lib.hid (below_step hb13 (Seq.way : Below y12.heap.size y12 _))
  have W13 := Lib.hid (below_step B13.out W12.out)
  clear hb13
  obtain ⟨m0, m1, -, -, -⟩ := (J1.out.at W13.out)
  obtain ⟨m2, m3, -, -, -⟩ := (J2.out.at W13.out)
  have HL13 := Lib.hid (show Seq clsE (fun _ => True) (y13.alloc (.cells #[x1, z1, x2, z2] 31)) (.slice (some ⟨y13.heap.size, 0, none⟩) 2 2) [hdA, hdB] from seq_clss (show Row 31 _ y13.heap.size (pairs2 [(x1, z1), (x2, z2)]) from Row.new y13 [_, _, _, _] _ rfl) rfl (show 2 ≤ 1000 by decide) trivial fun k c hk => by
    match k, hk with
    | 0, hk => obtain rfl := Option.some.inj hk; exact ⟨x1, z1, rfl, (J1.out.at W13.out).2.2.2.1.at Seq.way, (J1.out.at W13.out).2.2.2.2.at Seq.way⟩
    | 1, hk => obtain rfl := Option.some.inj hk; exact ⟨x2, z2, rfl, (J2.out.at W13.out).2.2.2.1.at Seq.way, (J2.out.at W13.out).2.2.2.2.at Seq.way⟩)
  go_wp2_with fail
  refine (RightP07_spec HL13.out).mono ?_
  rw [hd_rightAB]
  rintro e y14 ⟨rfl, hb14⟩
  have B14 := Lib.hid (below_step hb14 (Seq.way : Below y13.heap.size y13 _))
  have W14 := Lib.hid (below_step B14.out W13.out)
  clear hb14 m0 m1 m2 m3
  have D10 := Lib.hid (below_step B14.out (below_step B13.out (below_step B12.out B11.out)))
  have D8 := Lib.hid (below_step D10.out (below_step B10.out B9.out))
  obtain ⟨_, _, ee, -, -, -, -, t6⟩ := P6.out.at (below_step D8.out (below_step B8.out B7.out))
  simp only [Value.slice.injEq, true_and] at ee
  obtain ⟨rfl, rfl⟩ := ee
  obtain ⟨e6, f6, rfl, -, -, p0, p1, -, -⟩ := t6.prd (k := 0) (show 0 < 3 by decide)
  obtain ⟨_, _, ee, -, -, -, -, t7⟩ := P7.out.at (below_step D8.out B8.out)
  simp only [Value.slice.injEq, true_and] at ee
  obtain ⟨rfl, rfl⟩ := ee
  obtain ⟨e7, f7, rfl, -, -, p2, p3, p4, -, -⟩ := t7.lnk (k := 0) (show 0 < 2 by decide)
  obtain ⟨_, _, ee, -, -, p5, p6, p7, -, -⟩ := t7.lnk (k := 1) (show 1 < 2 by decide)
  simp only [Option.some.injEq, Addr.mk.injEq, and_true] at ee
  obtain ⟨rfl, rfl⟩ := ee
  obtain ⟨_, _, ee, -, -, -, -, t8⟩ := P8.out.at D8.out
  simp only [Value.slice.injEq, true_and] at ee
  obtain ⟨rfl, rfl⟩ := ee
  obtain ⟨e8, f8, rfl, -, -, p8, -⟩ := t8.int (k := 0) (show 0 < 3 by decide)
  obtain ⟨_, _, ee, -, -, p9, -⟩ := t8.int (k := 1) (show 1 < 3 by decide)
  simp only [Option.some.injEq, Addr.mk.injEq, and_true] at ee
  obtain ⟨rfl, rfl⟩ := ee
  obtain ⟨_, _, ee, -, -, p10, -⟩ := t8.int (k := 2) (show 2 < 3 by decide)
  simp only [Option.some.injEq, Addr.mk.injEq, and_true] at ee
  obtain ⟨rfl, rfl⟩ := ee
  obtain ⟨_, _, ee, -, -, -, -, t10⟩ := P10.out.at D10.out
  simp only [Value.slice.injEq, true_and] at ee
  obtain ⟨rfl, rfl⟩ := ee
  obtain ⟨e10, f10, rfl, -, -, p11, -⟩ := t10.int (k := 1) (show 1 < 2 by decide)
  clear t6 t7 t8 t10
  simp only [Nat.zero_mul, Nat.one_mul, Nat.add_zero, List.getElem_cons_zero, List.getElem_cons_succ, natsI, List.map_cons, List.map_nil] at p0 p1 p2 p3 p4 p5 p6 p7 p8 p9 p10 p11
  go_wp2_with fail
  refine (atomLw_spec (by decide) (nOK 3 (by omega))).mono ?_
  rintro e y15 ⟨v15, rfl, hb15, hs15⟩
  obtain ⟨a15, c15, rfl⟩ := hs15.shape
  have S15 := Lib.hid hs15
  have W15 := Lib.hid (below_step (below_step hb15 Seq.way) W14.out)
  clear hs15 hb15 p0 p1 p2 p3 p4 p5 p6 p7 p8 p9 p10 p11
  go_wp2_with fail
  refine (SafeP_spec (c := hdE) ⟨a15, c15, none, 0, rfl, S15.out, Seq.nil _ _ _⟩).mono ?_
  rw [hd_safeE]
  rintro e y16 ⟨rfl, hb16⟩
  have W16 := Lib.hid (below_step hb16 W15.out)
  clear hb16
  go_wp2_with fail
  refine (atomLw_spec (by decide) (nOK (-1) (by omega))).mono ?_
  rintro e y17 ⟨v17, rfl, hb17, hs17⟩
  obtain ⟨a17, c17, rfl⟩ := hs17.shape
  have S17 := Lib.hid hs17
  have W17 := Lib.hid (below_step hb17 W16.out)
  clear hs17 hb17
  go_wp2_with fail
  refine (SafeP_spec (c := hdF) ⟨a17, c17, none, 0, rfl, S17.out, Seq.nil _ _ _⟩).mono ?_
  rw [hd_safeF]
  rintro e y18 ⟨rfl, hb18⟩
  have W18 := Lib.hid (below_step hb18 W17.out)
  clear hb18
  go_wp2_with fail
  go_ret
  exact ⟨rfl, below_step W18.out YY.out⟩
end
end Go.Proofs.Ytadbdmnngmlnhaa
