/-
  Layer 18, plain facts for ResidFacts and ResidPlain.
-/
import Derived.Test.YtdbennmbbmoflaaResP
namespace Go.Proofs.Ytdbennmbbmoflaa
open Go Go.RowKit

theorem truth_three (g : Prog) (a : Int) : truthOf g a = 0 ∨ truthOf g a = 1 ∨ truthOf g a = 2 := by
  unfold truthOf; split <;> (try split) <;> simp

theorem truth_same {g h : Prog} (hg : GoodP g) (hs : SortR g.rules) (hg' : GoodP h) (hs' : SortR h.rules) {a : Int} (ht : Tru g.rules a ↔ Tru h.rules a) (hm : May g.rules a ↔ May h.rules a) (o o' : List Int) :
    truthOf (reduceL g o) a = truthOf (reduceL h o') a := by
  have h1 := truth_end hg hs o (a := a)
  have h2 := truth_end hg' hs' o' (a := a)
  have h3 := truth_three (reduceL g o) a
  have h4 := truth_three (reduceL h o') a
  rw [ht, hm] at h1
  by_cases hT : Tru h.rules a
  · rw [h1.1.2 hT, h2.1.2 hT]
  · by_cases hM : May h.rules a
    · have e1 : truthOf (reduceL g o) a ≠ 2 := fun e => hT (h1.1.1 e)
      have e2 : truthOf (reduceL g o) a ≠ 0 := fun e => (h1.2.1 e) hM
      have e3 : truthOf (reduceL h o') a ≠ 2 := fun e => hT (h2.1.1 e)
      have e4 : truthOf (reduceL h o') a ≠ 0 := fun e => (h2.2.1 e) hM
      omega
    · rw [h1.2.2 hM, h2.2.2 hM]

/-- Programs with the same derivations have the same model. -/
theorem model_same {rs rs' : List Rule} (h : ∀ I, Der rs I = Der rs' I) : Tru rs' = Tru rs ∧ May rs' = May rs :=
  same_of (fun _ => True) (fun I _ => h I) (fun _ => trivial) fun _ => trivial

theorem rulesL_der (l : List Rule) (I : Int → Prop) : Der (rulesL l) I = Der l I :=
  der_eq (fun _ hr hn _ hp => Der.rule (rulesL_has.1 hr) hn hp) (fun _ hr hn _ hp => Der.rule (rulesL_has.2 hr) hn hp)

/-! ### ResidFacts -/
/-- The rules whose head is another atom, behind a fact. -/
def lessF (a : Int) (l : List Rule) : List Rule := ⟨a, [], []⟩ :: l.filter fun r => !(r.head == a)
theorem lessF_nil (a : Int) : lessF a [] = [⟨a, [], []⟩] := rfl
theorem lessF_yes {a : Int} {l : List Rule} {k : Nat} (hk : k < l.length) (h : l[k].head ≠ a) : lessF a (l.take (k + 1)) = lessF a (l.take k) ++ [l[k]] := by
  unfold lessF
  rw [List.take_succ_eq_append_getElem hk, List.filter_append]
  simp [h]
theorem lessF_no {a : Int} {l : List Rule} {k : Nat} (hk : k < l.length) (h : l[k].head = a) : lessF a (l.take (k + 1)) = lessF a (l.take k) := by
  unfold lessF
  rw [List.take_succ_eq_append_getElem hk, List.filter_append]
  simp [h]
theorem lessF_len (a : Int) (l : List Rule) : (lessF a l).length ≤ l.length + 1 := by
  unfold lessF
  have := List.length_filter_le (fun r : Rule => !(r.head == a)) l
  simp only [List.length_cons]; omega
theorem lessF_mem {a : Int} {l : List Rule} {r : Rule} (h : r ∈ lessF a l) : r ∈ l ∨ r = ⟨a, [], []⟩ := by
  unfold lessF at h
  rcases List.mem_cons.1 h with h | h
  · exact .inr h
  · exact .inl (List.mem_filter.1 h).1

theorem facts_der (a : Int) (l : List Rule) (I : Int → Prop) : Der (l ++ [⟨a, [], []⟩]) I = Der (lessF a l) I := by
  have hf : Der (lessF a l) I a := FactIn.der ⟨⟨a, [], []⟩, by simp [lessF], rfl, rfl, rfl⟩ I
  refine der_eq (fun r hr hn _ hp => ?_) (fun r hr hn _ hp => ?_)
  · rcases List.mem_append.1 hr with hr | hr
    · by_cases he : r.head = a
      · rw [he]; exact hf
      · exact Der.rule (by unfold lessF; simp [hr, he]) hn hp
    · rw [List.mem_singleton] at hr; subst hr; exact hf
  · refine Der.rule ?_ hn hp
    rcases lessF_mem hr with h | h
    · exact List.mem_append_left _ h
    · exact List.mem_append_right _ (by simp [h])
theorem facts_true (a : Int) (l : List Rule) : Tru (l ++ [⟨a, [], []⟩]) a :=
  Tru.of (FactIn.der ⟨⟨a, [], []⟩, by simp, rfl, rfl, rfl⟩ _)

theorem fine_more {g : Prog} {rs : List Rule} {a : Int} (h : FineP g) (hl : g.rules.length ≤ 1000) (ha : 0 ≤ a ∧ a < g.atoms.length) (hr : ∀ r ∈ rs, r ∈ g.rules ∨ r = ⟨a, [], []⟩) (hlen : rs.length ≤ g.rules.length + 1) : FineP ⟨g.atoms, rulesL rs⟩ := by
  have h1 := rulesL_len rs
  have hm : ∀ r ∈ rulesL rs, r ∈ g.rules ∨ r = ⟨a, [], []⟩ := fun r hr' => hr r (rulesL_mem hr')
  refine ⟨⟨fun r hr' => ?_, by show (rulesL rs).length ≤ _; omega, h.alen⟩, by show (rulesL rs).length ≤ _; omega, fun r hr' => ?_, rulesL_sort _⟩
  · rcases hm r hr' with h2 | h2
    · exact h.rules r h2
    · subst h2; exact ⟨ha, by simp, by simp, by simp, by simp⟩
  · rcases hm r hr' with h2 | h2
    · exact h.psm r h2
    · subst h2; simp

theorem truthL_eq {g h : Prog} (ha : g.atoms.length = h.atoms.length) (he : ∀ a : Nat, a < g.atoms.length → truthOf g (a : Int) = truthOf h (a : Int)) : truthL g = truthL h := by
  unfold truthL truthTo
  rw [← ha]
  exact List.map_congr_left fun a hm => he a (List.mem_range.1 hm)

theorem reduce_atoms {g : Prog} (h : FineP g) (o : List Int) : (reduceL g o).atoms = g.atoms := (reduce_same h.toGoodP h.sort o).atoms

theorem facts_law {g : Prog} (h : FineP g) (hl : g.rules.length ≤ 1000) {a : Nat} (ha : a < g.atoms.length) (o o' : List Int) :
    truthL (reduceL ⟨g.atoms, rulesL (g.rules ++ [⟨(a : Int), [], []⟩])⟩ o) = truthL (reduceL ⟨g.atoms, rulesL (lessF (a : Int) g.rules)⟩ o') ∧
    (truthL (reduceL ⟨g.atoms, rulesL (g.rules ++ [⟨(a : Int), [], []⟩])⟩ o)).length = g.atoms.length ∧
    (truthL (reduceL ⟨g.atoms, rulesL (g.rules ++ [⟨(a : Int), [], []⟩])⟩ o))[a]? = some 2 := by
  have f1 : FineP ⟨g.atoms, rulesL (g.rules ++ [⟨(a : Int), [], []⟩])⟩ := fine_more (a := a) h hl ⟨by omega, by omega⟩ (fun r hr => by simpa using hr) (by simp)
  have f2 : FineP ⟨g.atoms, rulesL (lessF (a : Int) g.rules)⟩ := fine_more (a := a) h hl ⟨by omega, by omega⟩ (fun r hr => lessF_mem hr) (lessF_len _ _)
  have hd : ∀ I, Der (rulesL (lessF (a : Int) g.rules)) I = Der (rulesL (g.rules ++ [⟨(a : Int), [], []⟩])) I := fun I => by
    rw [rulesL_der, rulesL_der, facts_der]
  obtain ⟨ht, hm⟩ := model_same hd
  have a1 := reduce_atoms f1 o
  have a2 := reduce_atoms f2 o'
  refine ⟨truthL_eq (by rw [a1, a2]) fun b _ => truth_same f1.toGoodP f1.sort f2.toGoodP f2.sort (by rw [show Tru (rulesL (g.rules ++ [⟨(a : Int), [], []⟩])) = Tru (rulesL (lessF (a : Int) g.rules)) from ht]) (by rw [show May (rulesL (g.rules ++ [⟨(a : Int), [], []⟩])) = May (rulesL (lessF (a : Int) g.rules)) from hm]) o o', ?_, ?_⟩
  · unfold truthL; rw [truthTo_len, a1]
  · unfold truthL truthTo
    rw [a1]
    have hr : (List.range g.atoms.length)[a]? = some a := by rw [List.getElem?_range ha]
    rw [List.getElem?_map, hr]
    have := (truth_end f1.toGoodP f1.sort o (a := (a : Int))).1.2 (by
      have e := model_same (rs := rulesL (g.rules ++ [⟨(a : Int), [], []⟩])) (rs' := g.rules ++ [⟨(a : Int), [], []⟩]) (fun I => rulesL_der _ I)
      show Tru (rulesL (g.rules ++ [⟨(a : Int), [], []⟩])) a
      rw [← e.1]
      exact facts_true _ _)
    simp only [Option.map_some, this]
end Go.Proofs.Ytdbennmbbmoflaa
