/-
  Layer 18: Do and Reduce, the program's and the document's, at whatever simplification.
-/
import Derived.Test.YtdbennmbbmoflaaPrL
import Derived.Test.YtdbennmbbmoflaaPrM
import Derived.Test.YtdbennmbbmoflaaPrN
namespace Go.Proofs.Ytdbennmbbmoflaa
open Go Go.RowKit

theorem doIs : DoIs := fun _ _ _ _ _ _ hg hf hj hk => do_region hg hf hj hk
theorem ReduceP_spec {S T : Nat → Prop} {w : World} {v u : Value} {g : Prog} {order : List Int} (hg : ProgV S w v g) (hgood : FineP g) (ho : Seq intE T w u order) :
    Calls Try.prog 17 #[v, u] w (Ret (fun o w' => ProgV (Fr S w) w' o (reduceL g order)) w) := ReduceP_of doIs hg hgood ho

theorem fr_mono {S : Nat → Prop} {w w' : World} {v : Value} {g : Prog} (h : ProgV S w v g) (hb : Below w.heap.size w w') : ProgV (Fr S w) w' v g :=
  h.mono (fun _ h _ => .inl h) fun b _ hlt => hb.block b hlt
theorem DoP_spec {S : Nat → Prop} {w : World} {v : Value} {g : Prog} {s : Int × Int} (hg : ProgV S w v g) (hgood : FineP g) :
    Calls Try.prog 14 #[v, .agg #[.int .i64 s.1, .int .i64 s.2]] w (Ret (fun o w' => ∃ p, o = .tuple #[p, .bool (doL g s).2] ∧ ProgV (Fr S w) w' p (doL g s).1) w) := by
  by_cases h : s.1 < 1 ∨ 5 < s.1 ∨ s.2 < 0 ∨ (g.rules.length : Int) ≤ s.2
  · refine (DoP_no hg h).mono ?_
    rintro e w1 ⟨rfl, hb⟩
    rw [doL_no h]
    exact ⟨_, rfl, hb, v, rfl, fr_mono hg hb⟩
  · obtain ⟨s1, s2⟩ := s
    obtain ⟨j, rfl⟩ : ∃ j : Nat, s1 = (j : Int) + 1 := ⟨(s1 - 1).toNat, by simp at h; omega⟩
    obtain ⟨k, rfl⟩ : ∃ k : Nat, s2 = (k : Int) := ⟨s2.toNat, by simp at h; omega⟩
    exact do_region hg hgood (by simp at h; omega) (by simp at h; omega)
theorem DoR_spec {S : Nat → Prop} {w : World} {v : Value} {g : Prog} {s : Int × Int} (hg : ProgV S w v g) (hgood : FineP g) :
    Calls Try.prog 15 #[v, .agg #[.int .i64 s.1, .int .i64 s.2]] w (Ret (fun o w' => ∃ p, o = .tuple #[p, .bool (doL g s).2] ∧ ProgV (Fr S w) w' p (doL g s).1) w) := by
  by_cases h : s.1 < 1 ∨ 5 < s.1 ∨ s.2 < 0 ∨ (g.rules.length : Int) ≤ s.2
  · refine (DoR_no hg h).mono ?_
    rintro e w1 ⟨rfl, hb⟩
    rw [doL_no h]
    exact ⟨_, rfl, hb, v, rfl, fr_mono hg hb⟩
  · obtain ⟨s1, s2⟩ := s
    obtain ⟨k, rfl⟩ : ∃ k : Nat, s2 = (k : Int) := ⟨s2.toNat, by simp at h; omega⟩
    exact DoR_yes hg hgood.toGoodP (by simp at h; omega) (by simp at h; omega) (by simp at h; omega)
theorem ProgV.at {S : Nat → Prop} {w w' : World} {v : Value} {g : Prog} (h : ProgV S w v g) (hb : Below w.heap.size w w') : ProgV S w' v g :=
  h.mono (fun _ h _ => h) fun b _ hlt => hb.block b hlt
theorem ProgV.any {S : Nat → Prop} {w : World} {v : Value} {g : Prog} (h : ProgV S w v g) : ProgV (fun _ => True) w v g :=
  h.mono (fun _ _ _ => trivial) fun _ _ _ => rfl
theorem ProgV.shape {S : Nat → Prop} {w : World} {v : Value} {g : Prog} (h : ProgV S w v g) : ∃ aa ac ra rc, v = .agg #[.slice aa g.atoms.length ac, .slice ra g.rules.length rc] := by
  obtain ⟨_, _, rfl, ⟨aa, ac, rfl, -⟩, ⟨ra, rc, rfl, -⟩⟩ := h
  exact ⟨aa, ac, ra, rc, rfl⟩

theorem madeL_fine (l : List Rule) (n : Nat) : FineP (madeL l n) := by
  have h := madeL_good l n
  refine ⟨h, ?_, fun r hr => ?_, rulesL_sort _⟩
  · have h1 := rulesL_len (rulesM (manyN n) l (min l.length 24))
    have h2 := rulesM_len (manyN n) l (min l.length 24)
    show (rulesL _).length ≤ _
    omega
  · have h1 : r ∈ rulesM (manyN n) l (min l.length 24) := rulesL_mem hr
    unfold rulesM at h1
    obtain ⟨q, -, rfl⟩ := List.mem_map.1 h1
    have h2 := (setL_good q.pos (manyN n)).2
    have h3 := (manyN_pos n).2
    simp only [ruleM]; omega

end Go.Proofs.Ytdbennmbbmoflaa
