/-
  Layer 18, plain facts for ResidPlain: rules without Neg; rules that all have one atom without a rule as Neg.
-/
import Derived.Test.YtdbennmbbmoflaaResQ
namespace Go.Proofs.Ytdbennmbbmoflaa
open Go Go.RowKit

def plainL (l : List Rule) : List Rule := l.map fun r => ⟨r.head, r.pos, []⟩
def otherL (n : Int) (l : List Rule) : List Rule := l.map fun r => ⟨r.head, r.pos, [n]⟩
theorem plainL_snoc {l : List Rule} {k : Nat} (hk : k < l.length) : plainL (l.take (k + 1)) = plainL (l.take k) ++ [⟨l[k].head, l[k].pos, []⟩] := by
  unfold plainL
  rw [List.take_succ_eq_append_getElem hk, List.map_append]; rfl
theorem otherL_snoc {n : Int} {l : List Rule} {k : Nat} (hk : k < l.length) : otherL n (l.take (k + 1)) = otherL n (l.take k) ++ [⟨l[k].head, l[k].pos, [n]⟩] := by
  unfold otherL
  rw [List.take_succ_eq_append_getElem hk, List.map_append]; rfl
theorem plainL_len (l : List Rule) : (plainL l).length = l.length := by simp [plainL]
theorem otherL_len (n : Int) (l : List Rule) : (otherL n l).length = l.length := by simp [otherL]

theorem der_plain (l : List Rule) (I : Int → Prop) : Der (plainL l) I = Fol (plainL l) := by
  funext a
  refine propext ⟨fun h => fol_of h, fun h => fol_der (fun r hr x hx => ?_) h⟩
  obtain ⟨q, -, rfl⟩ := List.mem_map.1 hr
  simp at hx
theorem plain_model (l : List Rule) : Tru (plainL l) = Fol (plainL l) ∧ May (plainL l) = Fol (plainL l) := by
  refine ⟨?_, ?_⟩
  · rw [Tru.eq, der_plain]
  · rw [May.eq, der_plain]

theorem der_other {n : Int} (l : List Rule) {I : Int → Prop} (hI : ¬ I n) : Der (otherL n l) I = Fol (plainL l) := by
  funext a
  refine propext ⟨fun h => ?_, fun h => ?_⟩
  · induction h with
    | mk r hr _ _ ih =>
      obtain ⟨q, hq, rfl⟩ := List.mem_map.1 hr
      exact Der.rule (r := ⟨q.head, q.pos, []⟩) (List.mem_map.2 ⟨q, hq, rfl⟩) (by simp) ih
  · unfold Fol at h
    induction h with
    | mk r hr _ _ ih =>
      obtain ⟨q, hq, rfl⟩ := List.mem_map.1 hr
      exact Der.rule (r := ⟨q.head, q.pos, [n]⟩) (List.mem_map.2 ⟨q, hq, rfl⟩) (fun x hx => by simp at hx; subst hx; exact hI) ih
theorem other_no {n : Int} {l : List Rule} (h : ∀ r ∈ l, r.head ≠ n) (I : Int → Prop) : ¬ Der (otherL n l) I n := by
  intro hd
  obtain ⟨r, hr, he⟩ := hd.has
  obtain ⟨q, hq, rfl⟩ := List.mem_map.1 hr
  exact h q hq he
theorem other_model {n : Int} {l : List Rule} (h : ∀ r ∈ l, r.head ≠ n) : Tru (otherL n l) = Fol (plainL l) ∧ May (otherL n l) = Fol (plainL l) := by
  refine ⟨?_, ?_⟩
  · rw [Tru.eq]; exact der_other l (other_no h _)
  · rw [May.eq]; refine der_other l ?_
    rw [Tru.eq]; exact other_no h _

theorem plain_fine {g : Prog} (h : FineP g) (hl : g.rules.length ≤ 1000) : FineP ⟨g.atoms, rulesL (plainL g.rules)⟩ := by
  have h1 := rulesL_len (plainL g.rules)
  rw [plainL_len] at h1
  have hm : ∀ r ∈ rulesL (plainL g.rules), ∃ q ∈ g.rules, r = ⟨q.head, q.pos, []⟩ := fun r hr => by
    obtain ⟨q, hq, rfl⟩ := List.mem_map.1 (rulesL_mem hr)
    exact ⟨q, hq, rfl⟩
  refine ⟨⟨fun r hr => ?_, by show (rulesL _).length ≤ _; omega, h.alen⟩, by show (rulesL _).length ≤ _; omega, fun r hr => ?_, rulesL_sort _⟩
  · obtain ⟨q, hq, rfl⟩ := hm r hr
    have h2 := h.rules q hq
    exact ⟨h2.head, h2.pos, by simp, h2.plen, by simp⟩
  · obtain ⟨q, hq, rfl⟩ := hm r hr
    exact h.psm q hq
theorem other_fine {g : Prog} (h : FineP g) (hl : g.rules.length ≤ 1000) (hal : g.atoms.length ≤ 1000) (x : List Cell) : FineP ⟨g.atoms ++ [x], rulesL (otherL (g.atoms.length : Int) g.rules)⟩ := by
  have h1 := rulesL_len (otherL (g.atoms.length : Int) g.rules)
  rw [otherL_len] at h1
  have hm : ∀ r ∈ rulesL (otherL (g.atoms.length : Int) g.rules), ∃ q ∈ g.rules, r = ⟨q.head, q.pos, [(g.atoms.length : Int)]⟩ := fun r hr => by
    obtain ⟨q, hq, rfl⟩ := List.mem_map.1 (rulesL_mem hr)
    exact ⟨q, hq, rfl⟩
  have ha : (g.atoms ++ [x]).length = g.atoms.length + 1 := by simp
  refine ⟨⟨fun r hr => ?_, by show (rulesL _).length ≤ _; omega, by show (g.atoms ++ [x]).length ≤ _; omega⟩, by show (rulesL _).length ≤ _; omega, fun r hr => ?_, rulesL_sort _⟩
  · obtain ⟨q, hq, rfl⟩ := hm r hr
    have h2 := h.rules q hq
    show GoodR (g.atoms ++ [x]).length _
    rw [ha]
    refine ⟨⟨h2.head.1, ?_⟩, fun y hy => ⟨(h2.pos y hy).1, ?_⟩, fun y hy => ?_, h2.plen, by simp⟩
    · have := h2.head.2; show q.head < _; omega
    · have := (h2.pos y hy).2; omega
    · simp at hy; omega
  · obtain ⟨q, hq, rfl⟩ := hm r hr
    exact h.psm q hq

theorem truthL_len (g : Prog) : (truthL g).length = g.atoms.length := by unfold truthL; rw [truthTo_len]
theorem truthL_at (g : Prog) {a : Nat} (ha : a < g.atoms.length) : (truthL g)[a]? = some (truthOf g (a : Int)) := by
  unfold truthL truthTo
  rw [List.getElem?_map, List.getElem?_range ha]; rfl

/-- What ResidPlain asks. -/
theorem plain_law {g : Prog} (h : FineP g) (hl : g.rules.length ≤ 1000) (hal : g.atoms.length ≤ 1000) (x : List Cell) (o o' : List Int) :
    (truthL (reduceL ⟨g.atoms, rulesL (plainL g.rules)⟩ o)).length = (followsL ⟨g.atoms, rulesL (plainL g.rules)⟩).length ∧
    (followsL ⟨g.atoms, rulesL (plainL g.rules)⟩).length = g.atoms.length ∧
    (truthL (reduceL ⟨g.atoms ++ [x], rulesL (otherL (g.atoms.length : Int) g.rules)⟩ o')).length = g.atoms.length + 1 ∧
    (truthL (reduceL ⟨g.atoms ++ [x], rulesL (otherL (g.atoms.length : Int) g.rules)⟩ o'))[g.atoms.length]? = some 0 ∧
    ∀ a : Nat, a < g.atoms.length → ∃ f : Bool, (followsL ⟨g.atoms, rulesL (plainL g.rules)⟩)[a]? = some f ∧
      (truthL (reduceL ⟨g.atoms, rulesL (plainL g.rules)⟩ o))[a]? = some (if f then 2 else 0) ∧
      (truthL (reduceL ⟨g.atoms ++ [x], rulesL (otherL (g.atoms.length : Int) g.rules)⟩ o'))[a]? = some (if f then 2 else 0) := by
  have f1 := plain_fine h hl
  have f2 := other_fine h hl hal x
  have hno : ∀ r ∈ g.rules, r.head ≠ (g.atoms.length : Int) := fun r hr => by have := (h.rules r hr).head.2; omega
  have m1 := model_same (rs := rulesL (plainL g.rules)) (rs' := plainL g.rules) fun I => rulesL_der _ I
  have m2 := model_same (rs := rulesL (otherL (g.atoms.length : Int) g.rules)) (rs' := otherL (g.atoms.length : Int) g.rules) fun I => rulesL_der _ I
  have p1 := plain_model g.rules
  have p2 := other_model hno
  rw [p1.1, p1.2] at m1
  rw [p2.1, p2.2] at m2
  have a1 : (reduceL ⟨g.atoms, rulesL (plainL g.rules)⟩ o).atoms = g.atoms := reduce_atoms f1 o
  have a2 : (reduceL ⟨g.atoms ++ [x], rulesL (otherL (g.atoms.length : Int) g.rules)⟩ o').atoms = g.atoms ++ [x] := reduce_atoms f2 o'
  have t1 := fun {a : Int} => truth_end f1.toGoodP f1.sort o (a := a)
  have t2 := fun {a : Int} => truth_end f2.toGoodP f2.sort o' (a := a)
  simp only at t1 t2
  rw [← m1.1, ← m1.2] at t1
  rw [← m2.1, ← m2.2] at t2
  have fl : (followsL ⟨g.atoms, rulesL (plainL g.rules)⟩).length = g.atoms.length := followsL_len
  refine ⟨by rw [truthL_len, a1, fl], fl, by rw [truthL_len, a2]; simp, ?_, fun a ha => ?_⟩
  · rw [truthL_at _ (by rw [a2]; simp)]
    congr 1
    refine t2.2.2 fun hf => ?_
    have : Der (otherL (g.atoms.length : Int) g.rules) (fun _ => False) (g.atoms.length : Int) := by rw [der_other _ (fun h => h)]; exact hf
    exact other_no hno _ this
  · have ha' : a < (followsL ⟨g.atoms, rulesL (plainL g.rules)⟩).length := by rw [fl]; exact ha
    refine ⟨(followsL ⟨g.atoms, rulesL (plainL g.rules)⟩)[a], List.getElem?_eq_getElem ha', ?_, ?_⟩
    all_goals
      have hf := follows_iff f1.toGoodP (a := (a : Int)) (by omega)
      rw [show ((a : Int)).toNat = a by omega, List.getD_eq_getElem?_getD, List.getElem?_eq_getElem ha'] at hf
      simp only [Option.getD_some] at hf
      have hd : Fol (rulesL (plainL g.rules)) (a : Int) ↔ Fol (plainL g.rules) (a : Int) := by unfold Fol; rw [rulesL_der]
      rw [hd] at hf
    · rw [truthL_at _ (by rw [a1]; exact ha)]
      congr 1
      by_cases hb : (followsL ⟨g.atoms, rulesL (plainL g.rules)⟩)[a] = true
      · rw [if_pos hb]; exact t1.1.2 (hf.1 hb)
      · rw [if_neg hb]; exact t1.2.2 fun h => hb (hf.2 h)
    · rw [truthL_at _ (by rw [a2]; simp; omega)]
      congr 1
      by_cases hb : (followsL ⟨g.atoms, rulesL (plainL g.rules)⟩)[a] = true
      · rw [if_pos hb]; exact t2.1.2 (hf.1 hb)
      · rw [if_neg hb]; exact t2.2.2 fun h => hb (hf.2 h)
end Go.Proofs.Ytdbennmbbmoflaa
