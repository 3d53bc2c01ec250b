/-
  Layer 18, plain facts for ResidLeft.
-/
import Derived.Test.YtdbennmbbmoflaaRmB
namespace Go.Proofs.Ytdbennmbbmoflaa
open Go Go.RowKit

/-- The rules whose head is no fact. -/
def leftF (g : Prog) (l : List Rule) : List Rule := l.filter fun r => !(truthOf g r.head == 2)
theorem leftF_nil (g : Prog) : leftF g [] = [] := rfl
theorem leftF_yes {g : Prog} {l : List Rule} {k : Nat} (hk : k < l.length) (h : truthOf g l[k].head ≠ 2) : leftF g (l.take (k + 1)) = leftF g (l.take k) ++ [l[k]] := by
  unfold leftF
  rw [List.take_succ_eq_append_getElem hk, List.filter_append]
  simp [h]
theorem leftF_no {g : Prog} {l : List Rule} {k : Nat} (hk : k < l.length) (h : truthOf g l[k].head = 2) : leftF g (l.take (k + 1)) = leftF g (l.take k) := by
  unfold leftF
  rw [List.take_succ_eq_append_getElem hk, List.filter_append]
  simp [h]
theorem leftF_len (g : Prog) (l : List Rule) : (leftF g l).length ≤ l.length := List.length_filter_le _ _
theorem leftF_mem {g : Prog} {l : List Rule} {r : Rule} : r ∈ leftF g l ↔ r ∈ l ∧ truthOf g r.head ≠ 2 := by
  unfold leftF; simp [List.mem_filter]

/-- Undefined at the end: it has a rule, and is no fact. -/
def UndefAt (g : Prog) (a : Int) : Prop := (∃ q ∈ g.rules, q.head = a) ∧ ¬ FactIn g.rules a
theorem undef_iff {g : Prog} {a : Int} : truthOf g a = 1 ↔ UndefAt g a := by
  have hf : factB g a = true ↔ FactIn g.rules a := factB_iff
  have hr : rulesB g a = true ↔ ∃ q ∈ g.rules, q.head = a := rulesB_iff
  unfold UndefAt truthOf
  rw [← hf, ← hr]
  cases h3 : factB g a <;> cases h4 : rulesB g a <;> simp
theorem true_iff {g : Prog} {a : Int} : truthOf g a = 2 ↔ FactIn g.rules a := by
  have hf : factB g a = true ↔ FactIn g.rules a := factB_iff
  unfold truthOf
  rw [← hf]
  cases h3 : factB g a <;> simp
  split <;> simp

/-- At the end each rule whose head is no fact has undefined atoms alone. -/
theorem left_undef {g : Prog} (hg : GoodP g) (h : canL g = []) {r : Rule} (hr : r ∈ g.rules) : (∀ x ∈ r.pos, truthOf g x = 1) ∧ (∀ x ∈ r.neg, truthOf g x = 1) ∧ (truthOf g r.head ≠ 2 → truthOf g r.head = 1) := by
  have he := end_rules hg h r hr
  refine ⟨fun x hx => undef_iff.2 ⟨(he.2 x hx).2.has, (he.2 x hx).1⟩, fun x hx => undef_iff.2 (he.1 x hx), fun hne => undef_iff.2 ⟨⟨r, hr, rfl⟩, fun hf => hne (true_iff.2 hf)⟩⟩

theorem left_model {g : Prog} (hg : GoodP g) (h : canL g = []) : Tru (leftF g g.rules) = (fun _ => False) ∧ May (leftF g g.rules) = UndefAt g := by
  have he := end_rules hg h
  have hin : ∀ r ∈ leftF g g.rules, r ∈ g.rules ∧ UndefAt g r.head := fun r hr => by
    obtain ⟨h1, h2⟩ := leftF_mem.1 hr
    exact ⟨h1, undef_iff.1 ((left_undef hg h h1).2.2 h2)⟩
  refine Tru.eq_of ?_ ?_ fun a ha => ha.elim
  · funext a
    refine propext ⟨fun hd => ?_, fun hu => ?_⟩
    · obtain ⟨r, hr, rfl⟩ := hd.has
      exact (hin r hr).2
    · have key : ∀ y, Fol g.rules y → UndefAt g y → Der (leftF g g.rules) (fun _ => False) y := by
        intro y hy
        unfold Fol at hy
        induction hy with
        | mk r hr _ _ ih =>
          intro hu
          refine .mk r (leftF_mem.2 ⟨hr, fun e => hu.2 (true_iff.1 e)⟩) (fun _ _ h => h) fun x hx => ih x hx (undef_iff.1 ((left_undef hg h hr).1 x hx))
      obtain ⟨⟨r, hr, rfl⟩, hf⟩ := id hu
      exact key _ (.mk r hr (fun _ _ h => h) fun x hx => ((he r hr).2 x hx).2) hu
  · funext a
    refine propext ⟨fun hd => ?_, fun h => h.elim⟩
    induction hd with
    | mk r hr hn _ ih =>
      obtain ⟨h1, h2⟩ := hin r hr
      refine h2.2 ⟨r, h1, rfl, ?_, ?_⟩
      · rcases hp : r.pos with _ | ⟨x, l⟩
        · rfl
        · exact (ih x (by rw [hp]; simp)).elim
      · rcases hp : r.neg with _ | ⟨x, l⟩
        · rfl
        · exact (hn x (by rw [hp]; simp) (undef_iff.1 ((left_undef hg h h1).2.1 x (by rw [hp]; simp)))).elim

theorem left_good {g : Prog} (hg : GoodP g) : GoodP ⟨g.atoms, leftF g g.rules⟩ :=
  ⟨fun r hr => hg.rules r (leftF_mem.1 hr).1, Nat.le_trans (leftF_len _ _) hg.rlen, hg.alen⟩

/-- What is undefined is so in what is left, by itself. -/
theorem left_law {g : Prog} (hg : GoodP g) (h : canL g = []) {a : Nat} (ha : a < g.atoms.length) (hu : truthOf g (a : Int) = 1) : (modelL ⟨g.atoms, leftF g g.rules⟩)[a]? = some 1 := by
  have hg' := left_good hg
  obtain ⟨ht, hm⟩ := left_model hg h
  have h2 := model_at hg' (a := a)
  rw [show Tru (Prog.rules ⟨g.atoms, leftF g g.rules⟩) = Tru (leftF g g.rules) from rfl, ht, show May (Prog.rules ⟨g.atoms, leftF g g.rules⟩) = May (leftF g g.rules) from rfl, hm] at h2
  have hU := undef_iff.1 hu
  have h4 : ∀ low up, stateOf low up a = 0 ∨ stateOf low up a = 1 ∨ stateOf low up a = 2 := fun low up => by
    unfold stateOf; split <;> (try split) <;> simp
  have h5 := h4 (lowL ⟨g.atoms, leftF g g.rules⟩) (leastL ⟨g.atoms, leftF g g.rules⟩ (lowL ⟨g.atoms, leftF g g.rules⟩))
  unfold modelL stateTo
  rw [List.getElem?_map, List.getElem?_range ha]
  simp only [Option.map_some, Option.some.injEq]
  rcases h5 with h5 | h5 | h5
  · exact absurd hU (h2.2.1 h5)
  · exact h5
  · exact (h2.1.1 h5).elim
end Go.Proofs.Ytdbennmbbmoflaa
