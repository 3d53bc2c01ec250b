/-
  Layer 18, plain facts: what can be done makes a program smaller, and keeps it right; what Reduce comes to.
-/
import Derived.Test.YtdbennmbbmoflaaResI
import Derived.Test.YtdbennmbbmoflaaResF
namespace Go.Proofs.Ytdbennmbbmoflaa
open Go Go.RowKit

def sizeR (r : Rule) : Nat := 1 + r.pos.length + r.neg.length
def sizeL : List Rule → Nat
  | [] => 0
  | r :: l => sizeR r + sizeL l
def sizeP (g : Prog) : Nat := sizeL g.rules

theorem sizeL_append : ∀ (l m : List Rule), sizeL (l ++ m) = sizeL l + sizeL m
  | [], m => by simp [sizeL]
  | r :: l, m => by simp only [List.cons_append, sizeL, sizeL_append l m]; omega

theorem sizeL_take_drop (l : List Rule) (k : Nat) : sizeL (l.take k) + sizeL (l.drop k) = sizeL l := by
  rw [← sizeL_append, List.take_append_drop]

theorem sizeL_insR (out : List Rule) (x : Rule) : sizeL (insR out x) ≤ sizeL out + sizeR x := by
  have key : ∀ t, sizeL (out.take t ++ [x] ++ out.drop t) = sizeL out + sizeR x := by
    intro t
    rw [sizeL_append, sizeL_append]
    have := sizeL_take_drop out t
    simp only [sizeL]; omega
  unfold insR
  split
  · split
    · omega
    · rw [key]; omega
  · rw [key]; omega

theorem sizeL_rulesL (l : List Rule) : sizeL (rulesL l) ≤ sizeL l := by
  have : ∀ (l out : List Rule), sizeL (l.foldl insR out) ≤ sizeL out + sizeL l := by
    intro l
    induction l with
    | nil => intro out; simp [sizeL]
    | cons x l ih =>
      intro out
      have h1 := ih (insR out x)
      have h2 := sizeL_insR out x
      simp only [List.foldl_cons, sizeL]; omega
  have := this l []
  simpa [sizeL, rulesL] using this

theorem sizeL_le : ∀ (l : List Rule) (c : Nat), (∀ r ∈ l, sizeR r ≤ c) → sizeL l ≤ l.length * c
  | [], c, _ => by simp [sizeL]
  | r :: l, c, h => by
    have h1 := sizeL_le l c fun q hq => h q (by simp [hq])
    have h2 := h r (by simp)
    simp only [sizeL, List.length_cons, Nat.succ_mul]; omega

theorem sizeP_le {g : Prog} (h : GoodP g) : sizeP g ≤ 3000000000000000000 := by
  have h1 := sizeL_le g.rules 2000000001 fun r hr => by have := h.rules r hr; have h2 := this.plen; have h3 := this.nlen; unfold sizeR; omega
  have h2 := h.rlen
  have h3 : g.rules.length * 2000000001 ≤ 1000000000 * 2000000001 := Nat.mul_le_mul_right _ h2
  unfold sizeP; omega

theorem sizeL_split (l : List Rule) (k : Nat) (hk : k < l.length) : sizeL l = sizeL (l.take k ++ l.drop (k + 1)) + sizeR l[k] := by
  have h := sizeL_take_drop l k
  rw [List.drop_eq_getElem_cons hk] at h
  simp only [sizeL] at h
  rw [sizeL_append]; omega

theorem goneL_mem {g : Prog} {f : List Bool} {kind : Int} {r : Rule} {x : Int} : x ∈ goneL g f kind r ↔ x ∈ sideL kind r ∧ isGone g f kind x = true := by
  unfold goneL fltL; simp [List.mem_filter]

theorem withoutL_lt {l m : List Int} {x : Int} (h1 : x ∈ l) (h2 : x ∈ m) : (withoutL l m).length < l.length := by
  unfold withoutL
  rw [List.length_filter_lt_length_iff_exists]
  exact ⟨x, h1, by simp [inB, h2]⟩

theorem mem_canL {g : Prog} {s : Int × Int} : s ∈ canL g ↔ ∃ j k : Nat, ∃ h : k < g.rules.length, j < 5 ∧ s = ((j : Int) + 1, (k : Int)) ∧ 0 < (goneL g (followsL g) ((j : Int) + 1) g.rules[k]).length := by
  unfold canL canUpto canRow
  simp only [List.mem_flatMap, List.mem_range, List.mem_map, List.mem_filter, decide_eq_true_eq]
  constructor
  · rintro ⟨j, hj, ⟨r, k⟩, ⟨hm, h⟩, rfl⟩
    have hm' := List.mem_zipIdx_iff_getElem?.1 hm
    simp only at hm' h
    obtain ⟨hk, he⟩ := List.getElem?_eq_some_iff.1 hm'
    exact ⟨j, k, hk, hj, rfl, by rw [he]; exact h⟩
  · rintro ⟨j, k, hk, hj, rfl, h⟩
    exact ⟨j, hj, (g.rules[k], k), ⟨List.mem_zipIdx_iff_getElem?.2 (List.getElem?_eq_getElem hk), h⟩, rfl⟩

/-- The rules that a simplification puts in the place of the one that it takes out. -/
def moreL (kind : Int) (r : Rule) (l : List Int) : List Rule :=
  if kind = 1 then [⟨r.head, r.pos, withoutL r.neg l⟩] else if kind = 3 then [⟨r.head, withoutL r.pos l, r.neg⟩] else []

theorem doL_can {g : Prog} {j k : Nat} (hj : j < 5) (hk : k < g.rules.length) (h : 0 < (goneL g (followsL g) ((j : Int) + 1) g.rules[k]).length) :
    doL g ((j : Int) + 1, (k : Int)) = (⟨g.atoms, rulesL ((g.rules.take k ++ g.rules.drop (k + 1)) ++ moreL ((j : Int) + 1) g.rules[k] (goneL g (followsL g) ((j : Int) + 1) g.rules[k]))⟩, true) := by
  unfold doL moreL
  simp only
  rw [if_neg (by omega), Int.toNat_natCast, List.getElem?_eq_getElem hk]
  simp only
  rw [if_neg (by omega)]

theorem moreL_less {g : Prog} {f : List Bool} {kind : Int} {r : Rule} (h : 0 < (goneL g f kind r).length) : sizeL (moreL kind r (goneL g f kind r)) < sizeR r := by
  obtain ⟨x, hx⟩ := List.exists_mem_of_length_pos h
  have hx' := goneL_mem.1 hx
  unfold moreL
  split
  · next hk =>
    subst hk
    have := withoutL_lt (l := r.neg) (by simpa [sideL] using hx'.1) hx
    simp only [sizeL, sizeR]; omega
  · split
    · next hk =>
      subst hk
      have := withoutL_lt (l := r.pos) (by simpa [sideL] using hx'.1) hx
      simp only [sizeL, sizeR]; omega
    · simp only [sizeL, sizeR]; omega

theorem doL_less {g : Prog} {s : Int × Int} (h : s ∈ canL g) : sizeP (doL g s).1 < sizeP g := by
  obtain ⟨j, k, hk, hj, rfl, hg⟩ := mem_canL.1 h
  rw [doL_can hj hk hg]
  have h1 := sizeL_rulesL ((g.rules.take k ++ g.rules.drop (k + 1)) ++ moreL ((j : Int) + 1) g.rules[k] (goneL g (followsL g) ((j : Int) + 1) g.rules[k]))
  have h2 := moreL_less hg
  have h3 := sizeL_split g.rules k hk
  rw [sizeL_append] at h1
  simp only [sizeP]; omega

theorem moreL_good {n : Nat} {kind : Int} {r : Rule} {l : List Int} (h : GoodR n r) : ∀ q ∈ moreL kind r l, GoodR n q := by
  have hw : ∀ a m : List Int, (withoutL a m).length ≤ a.length := fun a m => List.length_filter_le _ _
  have hm : ∀ (a m : List Int) x, x ∈ withoutL a m → x ∈ a := fun a m x hx => (List.mem_filter.1 hx).1
  intro q hq
  unfold moreL at hq
  split at hq
  · simp only [List.mem_singleton] at hq; subst hq
    exact ⟨h.head, h.pos, fun x hx => h.neg x (hm _ _ _ hx), h.plen, Nat.le_trans (hw _ _) h.nlen⟩
  · split at hq
    · simp only [List.mem_singleton] at hq; subst hq
      exact ⟨h.head, fun x hx => h.pos x (hm _ _ _ hx), h.neg, Nat.le_trans (hw _ _) h.plen, h.nlen⟩
    · simp at hq

theorem moreL_len (kind : Int) (r : Rule) (l : List Int) : (moreL kind r l).length ≤ 1 := by
  unfold moreL; split
  · simp
  · split <;> simp

theorem doL_good {g : Prog} (h : GoodP g) {s : Int × Int} (hs : s ∈ canL g) : GoodP (doL g s).1 := by
  obtain ⟨j, k, hk, hj, rfl, hg⟩ := mem_canL.1 hs
  rw [doL_can hj hk hg]
  refine ⟨fun r hr => ?_, ?_, h.alen⟩
  · have := rulesL_mem hr
    simp only [List.mem_append] at this
    rcases this with (h1 | h1) | h1
    · exact h.rules _ (List.mem_of_mem_take h1)
    · exact h.rules _ (List.mem_of_mem_drop h1)
    · exact moreL_good (h.rules _ (List.getElem_mem hk)) _ h1
  · have h1 := rulesL_len ((g.rules.take k ++ g.rules.drop (k + 1)) ++ moreL ((j : Int) + 1) g.rules[k] (goneL g (followsL g) ((j : Int) + 1) g.rules[k]))
    have h2 := moreL_len ((j : Int) + 1) g.rules[k] (goneL g (followsL g) ((j : Int) + 1) g.rules[k])
    have h3 := h.rlen
    simp only [List.length_append, List.length_take, List.length_drop] at h1
    show (rulesL _).length ≤ _
    omega

theorem doL_atoms (g : Prog) (s : Int × Int) : (doL g s).1.atoms = g.atoms := by
  unfold doL
  split
  · rfl
  · split
    · rfl
    · simp only; split <;> rfl

/-! ### Reduce -/
/-- The place of the simplification that is done as number i, of n. -/
def pickAt (order : List Int) (i n : Nat) : Nat := match order[i]? with
  | some x => (x % (n : Int)).toNat
  | none => 0
def stepL (g : Prog) (order : List Int) (i : Nat) : Prog := (doL g ((canL g).getD (pickAt order i (canL g).length) (0, 0))).1
def reduceGo (order : List Int) : Nat → Nat → Prog → Prog
  | 0, _, g => g
  | f + 1, i, g => if (canL g).length = 0 then g else reduceGo order f (i + 1) (stepL g order i)
def reduceL (g : Prog) (order : List Int) : Prog := reduceGo order (sizeP g + 1) 0 g

theorem pickAt_lt (order : List Int) (i : Nat) {n : Nat} (hn : n ≠ 0) : pickAt order i n < n := by
  unfold pickAt
  split
  · rename_i x _
    have h1 := Int.emod_nonneg x (by omega : (n : Int) ≠ 0)
    have h2 := Int.emod_lt_of_pos x (by omega : (0 : Int) < n)
    omega
  · omega

theorem stepL_mem (g : Prog) (order : List Int) (i : Nat) (h : (canL g).length ≠ 0) : (canL g).getD (pickAt order i (canL g).length) (0, 0) ∈ canL g := by
  have := pickAt_lt order i h
  rw [List.getD_eq_getElem?_getD, List.getElem?_eq_getElem this]
  exact List.getElem_mem _

theorem reduceGo_more (order : List Int) : ∀ (f f' i : Nat) (g : Prog), sizeP g < f → sizeP g < f' → reduceGo order f i g = reduceGo order f' i g
  | 0, _, _, _, h, _ => by omega
  | _, 0, _, _, _, h => by omega
  | f + 1, f' + 1, i, g, h, h' => by
    unfold reduceGo
    split
    · rfl
    · next hc =>
      have := doL_less (stepL_mem g order i hc)
      exact reduceGo_more order f f' (i + 1) _ (by unfold stepL; omega) (by unfold stepL; omega)
end Go.Proofs.Ytdbennmbbmoflaa
