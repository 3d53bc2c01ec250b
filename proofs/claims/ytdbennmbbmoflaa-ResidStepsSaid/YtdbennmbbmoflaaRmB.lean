/-
  Layer 17's reference: Model: the well-founded model.
-/
import Derived.Test.YtdbennmbbmoflaaRmA
import Derived.Test.YtdbennmbbmoflaaResQ
namespace Go.Proofs.Ytdbennmbbmoflaa
open Go Go.RowKit

def Z (so : List Bool) (a : Int) : Prop := 0 ≤ a ∧ so.getD a.toNat false = true
theorem least_Z {g : Prog} (hg : GoodP g) (so : List Bool) : Z (leastL g so) = Der g.rules (Z so) := by
  have hI : Der g.rules (fun x => so.getD x.toNat false = true) = Der g.rules (Z so) := by
    funext a
    refine propext ⟨fun h => h.anti fun _ hz => hz.2, fun h => ?_⟩
    induction h with
    | mk r hr hn _ ih => exact .mk r hr (fun x hx hz => hn x hx ⟨((hg.rules r hr).neg x hx).1, hz⟩) ih
  funext a
  refine propext ⟨fun h => ?_, fun h => ?_⟩
  · rw [← hI]; exact (least_der hg h.1).1 h.2
  · obtain ⟨r, hr, rfl⟩ := h.has
    have h0 := (hg.rules r hr).head.1
    rw [← hI] at h
    exact ⟨h0, (least_der hg h0).2 h⟩

def SubB (a b : List Bool) : Prop := ∀ i : Nat, a.getD i false = true → b.getD i false = true
theorem SubB.zz {a b : List Bool} (h : SubB a b) {x : Int} (hx : Z a x) : Z b x := ⟨hx.1, h _ hx.2⟩
theorem SubB.of {a b : List Bool} (h : ∀ x, Z a x → Z b x) : SubB a b := fun i hi => by
  have := h (i : Int) ⟨by omega, by simpa using hi⟩
  simpa using this.2
theorem least_anti {g : Prog} (hg : GoodP g) {a b : List Bool} (h : SubB a b) : SubB (leastL g b) (leastL g a) := SubB.of fun x hx => by
  rw [least_Z hg] at hx ⊢
  exact hx.anti fun _ hy => h.zz hy

def nextL (g : Prog) (low : List Bool) : List Bool := leastL g (leastL g low)
def lowGo : Nat → Prog → List Bool → List Bool
  | 0, _, low => low
  | f + 1, g, low => if nextL g low = low then low else lowGo f g (nextL g low)
def startL (g : Prog) : List Bool := leastL g (List.replicate g.atoms.length true)
def lowL (g : Prog) : List Bool := lowGo (g.atoms.length + 1) g (startL g)
def stateOf (low up : List Bool) (a : Nat) : Int := if low.getD a false = true then 2 else if up.getD a false = true then 1 else 0
def stateTo (low up : List Bool) (k : Nat) : List Int := (List.range k).map fun a => stateOf low up a
theorem stateTo_succ (low up : List Bool) (k : Nat) : stateTo low up (k + 1) = stateTo low up k ++ [stateOf low up k] := by simp [stateTo, List.range_succ]
theorem stateTo_len (low up : List Bool) (k : Nat) : (stateTo low up k).length = k := by simp [stateTo]
def modelL (g : Prog) : List Int := stateTo (lowL g) (leastL g (lowL g)) g.atoms.length

theorem next_len (g : Prog) (low : List Bool) : (nextL g low).length = g.atoms.length := least_len _ _

theorem count_le : ∀ {a b : List Bool}, a.length = b.length → SubB a b → b.count false ≤ a.count false
  | [], [], _, _ => Nat.le_refl _
  | [], _ :: _, h, _ => by simp at h
  | _ :: _, [], h, _ => by simp at h
  | x :: a, y :: b, h, hs => by
    have ih := count_le (a := a) (b := b) (by simpa using h) fun i hi => by have := hs (i + 1); simpa using this (by simpa using hi)
    have h0 := hs 0
    cases x <;> cases y <;> simp_all
    omega
theorem count_lt : ∀ {a b : List Bool}, a.length = b.length → SubB a b → a ≠ b → b.count false < a.count false
  | [], [], _, _, h => absurd rfl h
  | [], _ :: _, h, _, _ => by simp at h
  | _ :: _, [], h, _, _ => by simp at h
  | x :: a, y :: b, h, hs, hne => by
    have hl : a.length = b.length := by simpa using h
    have hs' : SubB a b := fun i hi => by have := hs (i + 1); simpa using this (by simpa using hi)
    have h0 := hs 0
    have hle := count_le hl hs'
    by_cases hab : a = b
    · subst hab
      cases x <;> cases y <;> simp_all
    · have ih := count_lt hl hs' hab
      cases x <;> cases y <;> simp_all
      omega

theorem lowGo_more (g : Prog) (hg : GoodP g) : ∀ (f f' : Nat) (low : List Bool), low.length = g.atoms.length → SubB low (nextL g low) → low.count false < f → low.count false < f' → lowGo f g low = lowGo f' g low
  | 0, _, _, _, _, h, _ => by omega
  | _, 0, _, _, _, _, h => by omega
  | f + 1, f' + 1, low, hl, hs, h, h' => by
    unfold lowGo
    split
    · rfl
    · next hc =>
      have := count_lt (hl.trans (next_len g low).symm) hs (fun e => hc e.symm)
      exact lowGo_more g hg f f' _ (next_len g low) (least_anti hg (least_anti hg hs)) (by omega) (by omega)

/-- What holds of each row on the way. -/
structure LowI (g : Prog) (low : List Bool) : Prop where
  len : low.length = g.atoms.length
  sub : SubB low (nextL g low)
  tru : ∀ x, Z low x → Tru g.rules x
theorem LowI.start {g : Prog} (hg : GoodP g) : LowI g (startL g) where
  len := least_len _ _
  sub := by
    refine SubB.of fun x hx => ?_
    unfold startL at hx
    unfold nextL
    rw [least_Z hg] at hx ⊢
    refine Der.anti (J := Z (List.replicate g.atoms.length true)) (fun y hy => ?_) hx
    rw [least_Z hg] at hy
    obtain ⟨r, hr, rfl⟩ := hy.has
    have := (hg.rules r hr).head
    refine ⟨this.1, ?_⟩
    rw [List.getD_eq_getElem?_getD, List.getElem?_replicate, if_pos (by omega)]; rfl
  tru := fun x hx => by
    unfold startL at hx
    rw [least_Z hg] at hx
    refine Tru.of (hx.anti fun y hy => ?_)
    obtain ⟨r, hr, rfl⟩ := Der.has (hy : Der g.rules (Tru g.rules) y)
    have := (hg.rules r hr).head
    refine ⟨this.1, ?_⟩
    rw [List.getD_eq_getElem?_getD, List.getElem?_replicate, if_pos (by omega)]; rfl
theorem LowI.next {g : Prog} (hg : GoodP g) {low : List Bool} (h : LowI g low) : LowI g (nextL g low) where
  len := next_len _ _
  sub := least_anti hg (least_anti hg h.sub)
  tru := fun x hx => by
    unfold nextL at hx
    rw [least_Z hg, least_Z hg] at hx
    rw [Tru.eq]
    exact hx.anti fun y hy => Der.anti (fun z hz => h.tru z hz) (hy : Der g.rules (Tru g.rules) y)

theorem low_end {g : Prog} (hg : GoodP g) : ∀ (f : Nat) (low : List Bool), LowI g low → low.count false < f → LowI g (lowGo f g low) ∧ nextL g (lowGo f g low) = lowGo f g low
  | 0, _, _, h => by omega
  | f + 1, low, H, h => by
    unfold lowGo
    split
    · next hc => exact ⟨H, hc⟩
    · next hc =>
      have := count_lt (H.len.trans (next_len g low).symm) H.sub (fun e => hc e.symm)
      exact low_end hg f _ (H.next hg) (by omega)

theorem low_model {g : Prog} (hg : GoodP g) : Tru g.rules = Z (lowL g) ∧ May g.rules = Z (leastL g (lowL g)) := by
  have hc : (startL g).count false < g.atoms.length + 1 := by
    have h1 := List.count_le_length (a := false) (l := startL g)
    have h2 := (LowI.start hg).len
    omega
  obtain ⟨H, he⟩ := low_end hg (g.atoms.length + 1) _ (LowI.start hg) hc
  have e1 : Der g.rules (Z (lowL g)) = Z (leastL g (lowL g)) := (least_Z hg _).symm
  have e2 : Der g.rules (Z (leastL g (lowL g))) = Z (lowL g) := by
    rw [← least_Z hg]
    exact congrArg Z he
  exact Tru.eq_of e1 e2 H.tru

theorem model_at {g : Prog} (hg : GoodP g) {a : Nat} : (stateOf (lowL g) (leastL g (lowL g)) a = 2 ↔ Tru g.rules (a : Int)) ∧ (stateOf (lowL g) (leastL g (lowL g)) a = 0 ↔ ¬ May g.rules (a : Int)) := by
  obtain ⟨ht, hm⟩ := low_model hg
  have h1 : Tru g.rules (a : Int) ↔ (lowL g).getD a false = true := by rw [ht]; unfold Z; simp
  have h2 : May g.rules (a : Int) ↔ (leastL g (lowL g)).getD a false = true := by rw [hm]; unfold Z; simp
  have h3 : Tru g.rules (a : Int) → May g.rules (a : Int) := fun h => h.may
  rw [h1, h2] at h3
  rw [h1, h2]
  unfold stateOf
  cases h4 : (lowL g).getD a false <;> cases h5 : (leastL g (lowL g)).getD a false <;> simp_all

theorem model_law {g : Prog} (hg : GoodP g) (hs : SortR g.rules) (order : List Int) : truthL (reduceL g order) = modelL g := by
  unfold truthL modelL truthTo stateTo
  rw [(reduce_same hg hs order).atoms]
  refine List.map_congr_left fun a _ => ?_
  have h1 := truth_end hg hs order (a := (a : Int))
  have h2 := model_at hg (a := a)
  have h3 := truth_three (reduceL g order) (a : Int)
  have h4 : stateOf (lowL g) (leastL g (lowL g)) a = 0 ∨ stateOf (lowL g) (leastL g (lowL g)) a = 1 ∨ stateOf (lowL g) (leastL g (lowL g)) a = 2 := by
    unfold stateOf; split <;> (try split) <;> simp
  by_cases hT : Tru g.rules (a : Int)
  · rw [h1.1.2 hT, h2.1.2 hT]
  · by_cases hM : May g.rules (a : Int)
    · have e1 : truthOf (reduceL g order) (a : Int) ≠ 2 := fun e => hT (h1.1.1 e)
      have e2 : truthOf (reduceL g order) (a : Int) ≠ 0 := fun e => (h1.2.1 e) hM
      have e3 : stateOf (lowL g) (leastL g (lowL g)) a ≠ 2 := fun e => hT (h2.1.1 e)
      have e4 : stateOf (lowL g) (leastL g (lowL g)) a ≠ 0 := fun e => (h2.2.1 e) hM
      omega
    · rw [h1.2.2 hM, h2.2.2 hM]
end Go.Proofs.Ytdbennmbbmoflaa
