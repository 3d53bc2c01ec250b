/-
  A map from variables to slices (as in layer 2).
-/
import Derived.Test.YtckkjjiaecnciaaGreatMtA
import Derived.Maps.OwnSet
namespace Go.Proofs.YtckkjjiaecnciaaGreat
open Go Go.RowKit

/-- An element of the map: the value itself. -/
def Rv (v : Value) : Option (DataW Value × List MemPlace) := some (.held v, [])
theorem wf_ok {n : Int} (h : IntOK n) : (Lit.int .i64 n).wf = true := by
  obtain ⟨h1, h2⟩ := h
  have e1 : IntKind.i64.min = -9223372036854775808 := by decide
  have e2 : IntKind.i64.max = 9223372036854775807 := by decide
  simp only [Lit.wf, e1, e2, Bool.and_eq_true, decide_eq_true_eq]
  exact ⟨h1, h2⟩
theorem zero_slice (w : World) : (zeroValue 23).run Tryz.prog w = .ok (.slice none 0 0) w := by kernel_rfl

section
variable {P : Program} {ops : Array Oper} {rest : List Oper} {o : Oper} {a : Act} {Q : Exit → Act → World → Prop}
/-- 'v, ok := m[k]', the value known. -/
theorem wpList_look (w : World) (hg : o.guard = none) (m x : Operand) (t : TypeId) (hop : o.op = Op.lookup t m x true)
    (k e : TypeId) (K : Go.Maps.Keyed P k) (ht : P.underlying t = some (.map k e)) {z : Value} (hz : (zeroValue e).run P w = .ok z w) (b n : Nat) (D : DataW Value)
    (hm : a.eval m = .map (some b)) (hown : w.ownsMap P k Rv b n D) (key : Value) (kl : Lit) (hx : a.eval x = key) (hkey : keyOf P k key = some kl)
    {v : Value} (hat : D.atKey kl (.held z) = .held v) {bo : Bool} (hbo : Maps.has D kl = bo)
    (hK : wpList P ops Q rest (a.put o.dst (.tuple #[v, .bool bo])) w) : wpList P ops Q (o :: rest) a w := by
  refine wpList_lookup_own_ok w hg m x t hop k e K ht Rv hz (.held z) [] rfl b n D hm hown key kl hx hkey fun v' ps hv => ?_
  unfold Rv at hv
  simp only [Option.some.injEq, Prod.mk.injEq] at hv
  rw [hat] at hv
  obtain ⟨h, -⟩ := hv
  injection h with h
  rw [h, hbo]; exact hK
end

/-- What a map holds: the bindings' terms. -/
def TabD (S : Nat → Prop) (w : World) (s : List Bnd) (D : DataW Value) : Prop :=
  Maps.IsMap D ∧ ∀ n, (bindS s n = none → Maps.has D (.int .i64 n) = false) ∧ ∀ t, bindS s n = some t → Maps.has D (.int .i64 n) = true ∧ ∃ v, (∀ z, D.atKey (.int .i64 n) z = .held v) ∧ Seq cellE S w v t
def MapS (S : Nat → Prop) (w : World) (v : Value) (s : List Bnd) : Prop := ∃ B n D, v = .map (some B) ∧ S B ∧ B < w.heap.size ∧ w.ownsMap Tryz.prog 3 Rv B n D ∧ TabD S w s D
theorem ownsMap_at {w w' : World} {P : Program} {k : TypeId} {b n : Nat} {D : DataW Value} (h : w.ownsMap P k Rv b n D) (hw : w'.heap[b]? = w.heap[b]?) : w'.ownsMap P k Rv b n D := by
  obtain ⟨es, clock, hb, r⟩ := h
  exact ⟨es, clock, hw.trans hb, r⟩
theorem TabD.mono {S T : Nat → Prop} {w w' : World} {s : List Bnd} {D : DataW Value} (h : TabD S w s D) (hT : ∀ b, S b → b < w.heap.size → T b) (hw : ∀ b, S b → b < w.heap.size → w'.heap[b]? = w.heap[b]?) : TabD T w' s D := by
  refine ⟨h.1, fun n => ⟨(h.2 n).1, fun t ht => ?_⟩⟩
  obtain ⟨h1, v, h2, h3⟩ := (h.2 n).2 t ht
  exact ⟨h1, v, h2, h3.mono hT hw⟩
theorem MapS.mono {S T : Nat → Prop} {w w' : World} {v : Value} {s : List Bnd} (h : MapS S w v s) (hT : ∀ b, S b → b < w.heap.size → T b) (hw : ∀ b, S b → b < w.heap.size → w'.heap[b]? = w.heap[b]?) : MapS T w' v s := by
  obtain ⟨B, n, D, rfl, h1, h2, h3, h4⟩ := h
  have hb := hw B h1 h2
  refine ⟨B, n, D, rfl, hT B h1 h2, ?_, ownsMap_at h3 hb, h4.mono hT hw⟩
  rcases Nat.lt_or_ge B w'.heap.size with hlt | hge
  · exact hlt
  · rw [Array.getElem?_eq_none hge, Array.getElem?_eq_getElem h2] at hb
    exact absurd hb (by simp)
theorem MapS.at {S : Nat → Prop} {w w' : World} {v : Value} {s : List Bnd} (h : MapS S w v s) (hb : Below w.heap.size w w') : MapS S w' v s := h.mono (fun _ h _ => h) fun b _ hlt => hb.block b hlt

theorem tabD_nil (S : Nat → Prop) (w : World) : TabD S w [] (.map []) := by
  refine ⟨Maps.isMap_empty, fun n => ⟨fun _ => rfl, fun t h => ?_⟩⟩
  simp [bindS] at h
theorem bindS_snoc {s : List Bnd} {k : Nat} (hk : k < s.length) (n : Int) : bindS (s.take (k + 1)) n = (bindS (s.take k) n).or (if s[k].var = n then some s[k].t else none) := by
  unfold bindS
  rw [List.take_succ_eq_append_getElem hk, List.find?_append]
  cases h : (s.take k).find? (fun b => decide (b.var = n)) with
  | some b => simp
  | none =>
    simp only [Option.none_or, Option.map_none]
    rw [List.find?_singleton]
    split <;> simp_all
/-- All variables unlike. -/
def VarsNe (s : List Bnd) : Prop := s.Pairwise fun a b => a.var ≠ b.var
theorem bindS_fresh {s : List Bnd} (h : VarsNe s) {k : Nat} (hk : k < s.length) : bindS (s.take k) s[k].var = none := by
  refine (placeS_none fun i hi e => ?_).2
  rw [List.length_take] at hi
  rw [List.getElem_take] at e
  exact List.pairwise_iff_getElem.1 h i k (by omega) hk (by omega) e
theorem tabD_put {S : Nat → Prop} {w : World} {s : List Bnd} {D : DataW Value} {k : Nat} (hk : k < s.length) (hne : VarsNe s) (h : TabD S w (s.take k) D) {v : Value} (hv : Seq cellE S w v s[k].t) :
    TabD S w (s.take (k + 1)) (D.put (.int .i64 s[k].var) (.held v)) := by
  refine ⟨h.1.put _ _, fun n => ?_⟩
  rw [bindS_snoc hk]
  by_cases e : s[k].var = n
  · subst e
    rw [bindS_fresh hne hk, if_pos rfl]
    refine ⟨fun h => by simp at h, fun t ht => ?_⟩
    simp only [Option.none_or, Option.some.injEq] at ht
    subst ht
    exact ⟨Maps.has_put_same h.1 (by simp [WideAt.IsKeyLit]) _, v, fun z => Maps.atKey_put_same h.1 (by simp [WideAt.IsKeyLit]) _ z, hv⟩
  · have e' : (Lit.int .i64 n) ≠ Lit.int .i64 s[k].var := fun h => by injection h with _ h; exact e h.symm
    rw [if_neg e, Option.or_none, Maps.has_put_other e']
    refine ⟨(h.2 n).1, fun t ht => ?_⟩
    obtain ⟨h1, v, h2, h3⟩ := (h.2 n).2 t ht
    exact ⟨h1, v, fun z => by rw [Maps.atKey_put_other e']; exact h2 z, h3⟩

theorem rightAt_lt : ∀ {s : List Bnd} {last : Int}, rightAt last s = true → (∀ b ∈ s, last < b.var) ∧ s.Pairwise (fun a b => a.var < b.var)
  | [], _, _ => ⟨fun _ h => by simp at h, List.Pairwise.nil⟩
  | b :: s, last, h => by
    have h' : okS last b = true ∧ rightAt b.var s = true := by simpa [rightAt] using h
    obtain ⟨h1, h2⟩ := h'
    obtain ⟨i1, i2⟩ := rightAt_lt h2
    unfold okS at h1
    simp only [Bool.and_eq_true, decide_eq_true_eq] at h1
    have hl : last < b.var := h1.1.1.1
    refine ⟨fun x hx => ?_, List.pairwise_cons.2 ⟨i1, i2⟩⟩
    rcases List.mem_cons.1 hx with rfl | hx
    · exact hl
    · have := i1 x hx; omega
theorem rightS_ne {s : List Bnd} (h : rightS s = true) : VarsNe s := (rightAt_lt h).2.imp fun h => by omega


end Go.Proofs.YtckkjjiaecnciaaGreat
