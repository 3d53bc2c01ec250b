/-
  Layer 2, the program: slices.SortFunc at bindings.
-/
import Derived.Test.YtgfiaddldmmjiaaSuL
import Derived.Test.YtgfiaddldmmjiaaSuN
import Derived.Test.YtgfiaddldmmjiaaSortG
namespace Go.Proofs.Ytgfiaddldmmjiaa
open Go Go.RowKit Go.Shelf Go.Sort

/-- A binding's cells. -/
abbrev SB := { cs : List Value // ∃ n a m c, cs = [.int .i64 n, .slice a m c] ∧ 0 ≤ n ∧ n ≤ 999 }
instance : Inhabited SB := ⟨⟨[.int .i64 0, .slice none 0 0], 0, none, 0, 0, rfl, by omega, by omega⟩⟩
def keyB (x : SB) : Int := match x.1 with
  | .int _ n :: _ => n
  | _ => 0
def cfB (x y : SB) : Int := keyB x - keyB y
theorem swoB : SWO (ltOf cfB) where
  irrefl x := by unfold ltOf cfB; simp
  trans x y z h1 h2 := by unfold ltOf cfB at *; simp at *; omega
  ntrans x y z h1 h2 := by unfold ltOf cfB at *; simp at *; omega

set_option maxHeartbeats 1000000 in
theorem comp2_spec (x y : SB) (W : World) : Calls Try.prog 44 #[.agg x.1.toArray, .agg y.1.toArray] W fun e w' => e = .returned (.int .i64 (cfB x y)) ∧ ∃ q os', w' = grow (W.drewN q) os' := by
  obtain ⟨_, n, a, m, c, rfl, h1, h2⟩ := x
  obtain ⟨_, k, b, l, d, rfl, h3, h4⟩ := y
  have hw : IntKind.i64.wrap (n - k) = n - k := IntWalk.i64_in (n - k) (by omega)
  change Calls Try.prog 44 #[.agg #[.int .i64 n, .slice a m c], .agg #[.int .i64 k, .slice b l d]] W fun e w' => e = .returned (.int .i64 (n - k)) ∧ ∃ q os', w' = grow (W.drewN q) os'
  go_enter Try.func44, Try.ntmps44
  go_wp2_with fail
  go_ret
  exact ⟨rfl, 0, _, by rw [alloc_eq_grow, alloc_eq_grow, grow_grow]; rfl⟩

theorem sortB_spec {S : Nat → Prop} {base : Nat} {w : World} {v : Value} {l : List Bnd} (hl : Own bindE S base 44 w v l) (hbase : base ≤ w.heap.size) (hv : ∀ x ∈ l, 0 ≤ x.var ∧ x.var ≤ 999) (hlen : l.length ≤ 1000000) :
    Calls Try.prog 43 #[v, .func (.func 44) #[] #[]] w fun e w' => e = .returned (.tuple #[]) ∧ Below base w w' ∧ ∃ l', l'.Perm l ∧ l'.Pairwise (fun a b => a.var ≤ b.var) ∧ Own bindE S base 44 w' v l' := by
  by_cases hne : l = []
  · subst hne
    obtain ⟨a, c, rfl, -⟩ := hl.shape
    refine (AnyF.slices_SortFunc_none (P := Try.prog) (ρ := sortB_ren) { sortB with } a c (.func (.func 44) #[] #[]) w).mono ?_
    rintro e w' ⟨rfl, rfl⟩
    exact ⟨rfl, Below.refl _ _, [], List.Perm.refl _, List.Pairwise.nil, hl⟩
  · obtain ⟨g, cap, d, rfl, hg, hds, hH, hfin⟩ := own_sort (α := SB) (enc := Subtype.val) (E := bindE) (K := fun y x => keyB y = x.var) (fun x => by obtain ⟨_, n, a, m, c, rfl, -⟩ := x; rfl) hl hne hbase (fun x hx T cs hR => by
      obtain ⟨u, rfl, h0, ht⟩ := hR
      obtain ⟨ua, uc, rfl, -⟩ := ht
      exact ⟨⟨_, x.var, ua, x.t.length, uc, rfl, hv x hx⟩, rfl, rfl⟩)
    have eg : ∀ args w, (callFunc 44 args).run Try.prog w = .ok (.enter 44 args) w := enters_of Try.func44 (by kernel_rfl) rfl
    refine (AnyQ.slices_SortFunc (P := Try.prog) (ρ := sortB_ren) sortB 2 Try.isAgg44 Try.sizeOf44 (Subtype.val : SB → List Value) (fun x => by obtain ⟨_, n, a, m, c, rfl, -⟩ := x; rfl) (fun x => by
      obtain ⟨_, n, a, m, c, rfl, -⟩ := x
      intro u hu
      have hu' : u ∈ [Value.int .i64 n, Value.slice a m c] := hu
      simp at hu'; rcases hu' with rfl | rfl <;> rfl) cfB swoB 44 #[] g 0 cap d w eg (fun _ _ _ _ x y => comp2_spec x y _) hH hg (by omega)).mono ?_
    rintro e w' ⟨rfl, d', n, os, hp, hs, rfl⟩
    obtain ⟨l', h1, h2, h3, h4⟩ := hfin d' n os hp
    refine ⟨rfl, h4, l', h1, List.pairwise_iff_getElem.2 fun i j hi hj hij => ?_, h3⟩
    have h5 := hs i j (Nat.zero_le _) hij (by rw [hds, ← h1.length_eq]; exact hj)
    have h6 := h2 i _ (List.getElem?_eq_getElem hi)
    have h7 := h2 j _ (List.getElem?_eq_getElem hj)
    unfold ltOf cfB at h5
    simp only [decide_eq_false_iff_not] at h5
    omega
end Go.Proofs.Ytgfiaddldmmjiaa
