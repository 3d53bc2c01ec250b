/-
  Layer 7, the program: slices.SortFunc at predicates.
-/
import Derived.Test.YtadbdmnngmlnhaaPgU
import Derived.Test.YtadbdmnngmlnhaaPgV
import Derived.Test.YtadbdmnngmlnhaaSortG
namespace Go.Proofs.Ytadbdmnngmlnhaa
open Go Go.RowKit Go.Shelf Go.Sort

/-- A predicate's cells. -/
abbrev SP := { cs : List Value // ∃ p : Prd, cs = [.string p.name, .int .i64 p.n] }
instance : Inhabited SP := ⟨⟨[.string ⟨#[]⟩, .int .i64 0], ⟨⟨#[]⟩, 0⟩, rfl⟩⟩
def prdOf (x : SP) : Prd := match x.1 with
  | [.string s, .int _ n] => ⟨s, n⟩
  | _ => ⟨⟨#[]⟩, 0⟩
def cfP (x y : SP) : Int := cmpP (prdOf x) (prdOf y)
theorem swo_of {α β : Type} {c : β → β → Int} (hc : Cmp c) (f : α → β) : SWO (ltOf fun x y : α => c (f x) (f y)) where
  irrefl x := by unfold ltOf; simp [hc.irr]
  trans x y z h1 h2 := by
    unfold ltOf at *
    simp only [decide_eq_true_eq] at *
    exact hc.trans h1 h2
  ntrans x y z h1 h2 := by
    unfold ltOf at *
    simp only [decide_eq_false_iff_not] at *
    have h3 := hc.neg (f x) (f y)
    have h4 := hc.neg (f y) (f z)
    have h5 := hc.neg (f x) (f z)
    have := hc.le_trans (a := f z) (b := f y) (d := f x) (by omega) (by omega)
    omega
theorem swoP : SWO (ltOf cfP) := swo_of cmpP_ok prdOf
theorem cmpPs_spec (x y : SP) (W : World) : Calls Try.prog 51 #[.agg x.1.toArray, .agg y.1.toArray] W fun e w' => e = .returned (.int .i64 (cfP x y)) ∧ ∃ q os', w' = grow (W.drewN q) os' := by
  obtain ⟨_, p, rfl⟩ := x
  obtain ⟨_, q, rfl⟩ := y
  exact CompareP_spec p q W

theorem sortP_spec {S : Nat → Prop} {base : Nat} {w : World} {v : Value} {l : List Prd} (hl : Own prdE S base 24 w v l) (hbase : base ≤ w.heap.size) (hlen : l.length ≤ 1000000) :
    Calls Try.prog 50 #[v, .func (.func 51) #[] #[]] w fun e w' => e = .returned (.tuple #[]) ∧ Below base w w' ∧ ∃ l', l'.Perm l ∧ l'.Pairwise (fun a b => cmpP a b ≤ 0) ∧ Own prdE S base 24 w' v l' := by
  by_cases hne : l = []
  · subst hne
    obtain ⟨a, c, rfl, -⟩ := hl.shape
    refine (AnyF.slices_SortFunc_none (P := Try.prog) (ρ := sortP_ren) { sortP with } a c (.func (.func 51) #[] #[]) w).mono ?_
    rintro e w' ⟨rfl, rfl⟩
    exact ⟨rfl, Below.refl _ _, [], List.Perm.refl _, List.Pairwise.nil, hl⟩
  · obtain ⟨g, cap, d, rfl, hg, hds, hH, hfin⟩ := own_sort (α := SP) (enc := Subtype.val) (E := prdE) (K := fun y x => prdOf y = x) (fun x => by obtain ⟨_, p, rfl⟩ := x; rfl) hl hne hbase (fun x hx T cs hR => by
      obtain ⟨rfl, -, -⟩ := hR
      exact ⟨⟨_, x, rfl⟩, rfl, rfl⟩)
    have eg : ∀ args w, (callFunc 51 args).run Try.prog w = .ok (.enter 51 args) w := enters_of Try.func51 (by kernel_rfl) rfl
    refine (AnyQ.slices_SortFunc (P := Try.prog) (ρ := sortP_ren) sortP 2 Try.isAgg24 Try.sizeOf24 (Subtype.val : SP → List Value) (fun x => by obtain ⟨_, p, rfl⟩ := x; rfl) (fun x => by
      obtain ⟨_, p, rfl⟩ := x
      intro u hu
      have hu' : u ∈ [Value.string p.name, Value.int .i64 p.n] := hu
      simp at hu'; rcases hu' with rfl | rfl <;> rfl) cfP swoP 51 #[] g 0 cap d w eg (fun _ _ _ _ x y => cmpPs_spec x y _) hH hg (by omega)).mono ?_
    rintro e w' ⟨rfl, d', n, os, hp, hs, rfl⟩
    obtain ⟨l', h1, h2, h3, h4⟩ := hfin d' n os hp
    refine ⟨rfl, h4, l', h1, List.pairwise_iff_getElem.2 fun i j hi hj hij => ?_, h3⟩
    have h5 := hs i j (Nat.zero_le _) hij (by rw [hds, ← h1.length_eq]; exact hj)
    have h6 := h2 i _ (List.getElem?_eq_getElem hi)
    have h7 := h2 j _ (List.getElem?_eq_getElem hj)
    unfold ltOf cfP at h5
    simp only [decide_eq_false_iff_not] at h5
    rw [h6, h7] at h5
    have := cmpP_ok.neg l'[i] l'[j]
    omega
/-- A link's cells. -/
abbrev SK := { cs : List Value // ∃ k : Lnk, cs = [.int .i64 k.fr, .int .i64 k.2, .bool k.neg] }
instance : Inhabited SK := ⟨⟨[.int .i64 ((0 : Nat) : Int), .int .i64 ((0 : Nat) : Int), .bool false], ⟨0, 0, false⟩, rfl⟩⟩
def lnkOf (x : SK) : Lnk := match x.1 with
  | [.int _ a, .int _ b, .bool c] => ⟨a.toNat, b.toNat, c⟩
  | _ => ⟨0, 0, false⟩
def cfK (x y : SK) : Int := cmpK (lnkOf x) (lnkOf y)
theorem swoK : SWO (ltOf cfK) := swo_of cmpK_ok lnkOf
theorem cmpKs_spec (x y : SK) (W : World) : Calls Try.prog 57 #[.agg x.1.toArray, .agg y.1.toArray] W fun e w' => e = .returned (.int .i64 (cfK x y)) ∧ ∃ q os', w' = grow (W.drewN q) os' := by
  obtain ⟨_, p, rfl⟩ := x
  obtain ⟨_, q, rfl⟩ := y
  exact CompareK_spec p q W

theorem sortK_spec {S : Nat → Prop} {base : Nat} {w : World} {v : Value} {l : List Lnk} (hl : Own lnkE S base 57 w v l) (hbase : base ≤ w.heap.size) (hlen : l.length ≤ 1000000) :
    Calls Try.prog 56 #[v, .func (.func 57) #[] #[]] w fun e w' => e = .returned (.tuple #[]) ∧ Below base w w' ∧ ∃ l', l'.Perm l ∧ l'.Pairwise (fun a b => cmpK a b ≤ 0) ∧ Own lnkE S base 57 w' v l' := by
  by_cases hne : l = []
  · subst hne
    obtain ⟨a, c, rfl, -⟩ := hl.shape
    refine (AnyF.slices_SortFunc_none (P := Try.prog) (ρ := sortK_ren) { sortK with } a c (.func (.func 57) #[] #[]) w).mono ?_
    rintro e w' ⟨rfl, rfl⟩
    exact ⟨rfl, Below.refl _ _, [], List.Perm.refl _, List.Pairwise.nil, hl⟩
  · obtain ⟨g, cap, d, rfl, hg, hds, hH, hfin⟩ := own_sort (α := SK) (enc := Subtype.val) (E := lnkE) (K := fun y x => lnkOf y = x) (fun x => by obtain ⟨_, p, rfl⟩ := x; rfl) hl hne hbase (fun x hx T cs hR => by
      obtain ⟨rfl, -, -⟩ := hR
      exact ⟨⟨_, x, rfl⟩, rfl, by cases x; rfl⟩)
    have eg : ∀ args w, (callFunc 57 args).run Try.prog w = .ok (.enter 57 args) w := enters_of Try.func57 (by kernel_rfl) rfl
    refine (AnyQ.slices_SortFunc (P := Try.prog) (ρ := sortK_ren) sortK 3 Try.isAgg57 Try.sizeOf57 (Subtype.val : SK → List Value) (fun x => by obtain ⟨_, p, rfl⟩ := x; rfl) (fun x => by
      obtain ⟨_, p, rfl⟩ := x
      intro u hu
      have hu' : u ∈ [Value.int .i64 p.fr, Value.int .i64 p.2, Value.bool p.neg] := hu
      simp at hu'; rcases hu' with rfl | rfl | rfl <;> rfl) cfK swoK 57 #[] g 0 cap d w eg (fun _ _ _ _ x y => cmpKs_spec x y _) hH hg (by omega)).mono ?_
    rintro e w' ⟨rfl, d', n, os, hp, hs, rfl⟩
    obtain ⟨l', h1, h2, h3, h4⟩ := hfin d' n os hp
    refine ⟨rfl, h4, l', h1, List.pairwise_iff_getElem.2 fun i j hi hj hij => ?_, h3⟩
    have h5 := hs i j (Nat.zero_le _) hij (by rw [hds, ← h1.length_eq]; exact hj)
    have h6 := h2 i _ (List.getElem?_eq_getElem hi)
    have h7 := h2 j _ (List.getElem?_eq_getElem hj)
    unfold ltOf cfK at h5
    simp only [decide_eq_false_iff_not] at h5
    rw [h6, h7] at h5
    have := cmpK_ok.neg l'[i] l'[j]
    omega
end Go.Proofs.Ytadbdmnngmlnhaa
