/-
  A region that draws its order, step by step: one operation alone; two that come in either order, met again behind them.
-/
import Derived.Test.YtgfiaddldmmjiaaInv
import Derived.Lib.Hide
import Derived.Below
namespace Go.Proofs.Ytgfiaddldmmjiaa
open Go Go.RowKit

/-- One question for a take in place of three. -/
def takeOK (md : Region.Mode) (ops : Array Oper) (listed : Array Bool) (i : Nat) : Bool := Region.free md ops listed i && (Region.ready md ops listed).contains i

section
variable {P : Program} {md : Region.Mode} {ops : Array Oper} {Q : Exit → Act → World → Prop} {S : World → Prop}
theorem wpAnyH_take1 {i : Nat} {oi : Oper} {v : Value} {fuel : Nat} {listed : Array Bool} {a : Act} {w : World} (hs : Region.noSelect ops = true) (hi : ops[i]? = some oi)
    (hf : takeOK md ops listed i = true) (hQ : ∀ c a w, Q (.panic c) (a.put oi.dst v) w → Q (.panic c) a w) (hy : YieldsIf P ops S oi v a) (hS : S w)
    (h : wpAnyH P md ops Q S fuel (listed.setIfInBounds i true) (a.put oi.dst v) w) : wpAnyH P md ops Q S (fuel + 1) listed a w := by
  unfold takeOK at hf
  rw [Bool.and_eq_true] at hf
  exact wpAnyH_take hi hs hf.1 hf.2 hQ hy hS h

/-- One operation alone. -/
theorem wpAnyH_one {i : Nat} {o : Oper} {fuel : Nat} {listed : Array Bool} {a : Act} {w : World} (hr : Region.ready md ops listed = [i]) (ho : ops[i]? = some o)
    (hw : Region.wanted o (yielded ops a.tmps) = true)
    (h : ∀ K, Hid (∀ a' w', S w' → (S w' → wpAnyH P md ops Q S fuel (listed.setIfInBounds i true) a' w') → K a' w') → o.wp P a w K Q) : wpAnyH P md ops Q S (fuel + 1) listed a w := by
  refine wpAnyH_all hr (by simp) fun k hk => ?_
  obtain rfl := List.mem_singleton.1 hk
  exact wpOp_run ho hw (h _ (Lib.hid fun a' w' h1 h2 => ⟨h1, h2 h1⟩))

/-- Two of which either may come up now. -/
theorem wpAnyH_fork {i j : Nat} {oi oj : Oper} {fuel : Nat} {listed : Array Bool} {a : Act} {w : World} (hr : Region.ready md ops listed = [i, j]) (hoi : ops[i]? = some oi) (hoj : ops[j]? = some oj)
    (wi : Region.wanted oi (yielded ops a.tmps) = true) (wj : Region.wanted oj (yielded ops a.tmps) = true)
    (h1 : ∀ K, Hid (∀ a' w', S w' → (S w' → wpAnyH P md ops Q S fuel (listed.setIfInBounds i true) a' w') → K a' w') → oi.wp P a w K Q)
    (h2 : ∀ K, Hid (∀ a' w', S w' → (S w' → wpAnyH P md ops Q S fuel (listed.setIfInBounds j true) a' w') → K a' w') → oj.wp P a w K Q) : wpAnyH P md ops Q S (fuel + 1) listed a w := by
  refine wpAnyH_all hr (by simp) fun k hk => ?_
  rw [List.mem_cons, List.mem_singleton] at hk
  rcases hk with rfl | rfl
  · exact wpOp_run hoi wi (h1 _ (Lib.hid fun a' w' h1 h2 => ⟨h1, h2 h1⟩))
  · exact wpOp_run hoj wj (h2 _ (Lib.hid fun a' w' h1 h2 => ⟨h1, h2 h1⟩))

/-- Two that come in either order: they meet again. -/
theorem wpAnyH_two {i j : Nat} {oi oj : Oper} {fuel : Nat} {listed : Array Bool} {a : Act} {w : World}
    (hr : Region.ready md ops listed = [i, j]) (hri : Region.ready md ops (listed.setIfInBounds i true) = [j]) (hrj : Region.ready md ops (listed.setIfInBounds j true) = [i])
    (hij : i ≠ j) (hoi : ops[i]? = some oi) (hoj : ops[j]? = some oj) {di dj : Tmp} (hdd : di ≠ dj)
    (wi : Region.wanted oi (yielded ops a.tmps) = true) (wj : Region.wanted oj (yielded ops a.tmps) = true)
    (wi' : ∀ v, Region.wanted oi (yielded ops (a.put (some dj) v).tmps) = true) (wj' : ∀ v, Region.wanted oj (yielded ops (a.put (some di) v).tmps) = true)
    (A B : Value → World → Prop) (F : Value → Value → World → Prop)
    (h1 : ∀ K, Hid (∀ v w', S w' → A v w' → K (a.put (some di) v) w') → oi.wp P a w K Q)
    (h1' : ∀ v w1, A v w1 → ∀ K, Hid (∀ u w', S w' → F v u w' → K ((a.put (some di) v).put (some dj) u) w') → oj.wp P (a.put (some di) v) w1 K Q)
    (h2 : ∀ K, Hid (∀ u w', S w' → B u w' → K (a.put (some dj) u) w') → oj.wp P a w K Q)
    (h2' : ∀ u w1, B u w1 → ∀ K, Hid (∀ v w', S w' → F v u w' → K ((a.put (some dj) u).put (some di) v) w') → oi.wp P (a.put (some dj) u) w1 K Q)
    (hend : ∀ v u w', S w' → F v u w' → wpAnyH P md ops Q S fuel ((listed.setIfInBounds i true).setIfInBounds j true) ((a.put (some di) v).put (some dj) u) w') :
    wpAnyH P md ops Q S (fuel + 2) listed a w := by
  refine wpAnyH_all hr (by simp) fun k hk => ?_
  rw [List.mem_cons, List.mem_singleton] at hk
  rcases hk with rfl | rfl
  · refine wpOp_run hoi wi (h1 _ (Lib.hid fun v w' hS hA => ⟨hS, ?_⟩))
    refine wpAnyH_all hri (by simp) fun k hk => ?_
    obtain rfl := List.mem_singleton.1 hk
    exact wpOp_run hoj (wj' v) (h1' v w' hA _ (Lib.hid fun u w'' hS' hF => ⟨hS', hend v u w'' hS' hF⟩))
  · refine wpOp_run hoj wj (h2 _ (Lib.hid fun u w' hS hB => ⟨hS, ?_⟩))
    refine wpAnyH_all hrj (by simp) fun k hk => ?_
    obtain rfl := List.mem_singleton.1 hk
    refine wpOp_run hoi (wi' u) (h2' u w' hB _ (Lib.hid fun v w'' hS' hF => ⟨hS', ?_⟩))
    have h := hend v u w'' hS' hF
    rw [Act.put_comm a v u (fun d h1 h2 => hdd (by simp only [Option.some.injEq] at h1 h2; rw [h1, h2])), Array.setIfInBounds_comm _ _ hij] at h
    exact h
end
end Go.Proofs.Ytgfiaddldmmjiaa
