/-
  Layer 16, the law's walks: plain facts for Sets, Back, Finds, Cut, Leans, More.
-/
import Derived.Test.YtaedgpcmkagpeaaGreatGuA
namespace Go.Proofs.YtaedgpcmkagpeaaGreat
open Go Go.RowKit

theorem turn_like (i : Ins) : Like i (turnI i) := by
  refine ⟨rfl, fun t => ?_, fun t => ?_⟩
  · show t ∈ i.pos ↔ t ∈ i.pos.reverse ++ i.pos.take 1
    rw [List.mem_append, List.mem_reverse]
    exact ⟨.inl, fun h => h.elim id List.mem_of_mem_take⟩
  · show t ∈ i.neg ↔ t ∈ i.neg.reverse
    rw [List.mem_reverse]
theorem like_refl (i : Ins) : Like i i := ⟨rfl, fun _ => Iff.rfl, fun _ => Iff.rfl⟩
/-- Turned about, some twice. -/
theorem sets_from {m x : List Ins} (hx : ∀ i ∈ x, i ∈ m) : fromT m = fromT ((m.map turnI).reverse ++ x) := by
  refine from_ext (fun i hi => ⟨turnI i, ?_, turn_like i⟩) fun j hj => ?_
  · rw [List.mem_append, List.mem_reverse, List.mem_map]; exact .inl ⟨i, hi, rfl⟩
  · rw [List.mem_append, List.mem_reverse, List.mem_map] at hj
    rcases hj with ⟨i, hi, rfl⟩ | h
    · exact ⟨i, hi, (turn_like i).symm⟩
    · exact ⟨j, hx j h, like_refl j⟩
theorem allT_lenB {n : Nat} : ∀ {l : List Ins}, (∀ i ∈ l, (termsI i).length ≤ n) → (allT l).length ≤ n * l.length
  | [], _ => by simp [allT]
  | i :: l, h => by
    have h1 := allT_lenB (l := l) fun j hj => h j (List.mem_cons_of_mem _ hj)
    have h2 := h i List.mem_cons_self
    unfold allT at h1 ⊢
    rw [List.flatMap_cons, List.length_append, List.length_cons, Nat.mul_succ]
    omega
theorem okI_len {i : Ins} (h : okI i = true) : i.pos.length ≤ 10 ∧ i.neg.length ≤ 10 := (okI_iff.1 h).2
theorem terms_len (i : Ins) : (termsI i).length = i.pos.length + i.neg.length + 1 := by unfold termsI; simp
theorem turn_len (i : Ins) : (termsI (turnI i)).length ≤ i.pos.length + i.neg.length + 2 := by
  rw [terms_len]; unfold turnI; simp; omega
theorem sets_terms {m x : List Ins} (hm : ∀ i ∈ m, okI i = true) (hx : ∀ i ∈ x, i ∈ m) (h60 : m.length ≤ 60) (h1 : x.length ≤ 1) : (allT ((m.map turnI).reverse ++ x)).length ≤ 100000 := by
  have := allT_lenB (n := 22) (l := (m.map turnI).reverse ++ x) fun i hi => by
    rw [List.mem_append, List.mem_reverse, List.mem_map] at hi
    rcases hi with ⟨j, hj, rfl⟩ | h
    · have := okI_len (hm j hj); have := turn_len j; omega
    · have := okI_len (hm i (hx i h)); rw [terms_len]; omega
  rw [List.length_append, List.length_reverse, List.length_map] at this
  omega
theorem from_right {m : List Ins} (hm : ∀ i ∈ m, okI i = true) : RightG (fromT m) := right_from (okI_atoms hm)
theorem from_rightB {m : List Ins} (hm : ∀ i ∈ m, okI i = true) : rightG (fromT m) = true := rightG_iff.2 (from_right hm)
/-! ### Which atoms are used -/
def usesB (r : Rule) (k : Nat) : Bool := decide (r.head = (k : Int)) || (decide ((k : Int) ∈ r.pos) || decide ((k : Int) ∈ r.neg))
theorem usesB_iff {r : Rule} {k : Nat} : usesB r k = true ↔ Uses r k := by unfold usesB Uses; simp
def usedL (rs : List Rule) (k : Nat) : Bool := rs.any fun r => usesB r k
theorem usedL_iff {rs : List Rule} {k : Nat} : usedL rs k = true ↔ ∃ r ∈ rs, Uses r k := by unfold usedL; simp [usesB_iff]
theorem usedL_snoc (rs : List Rule) (r : Rule) (k : Nat) : usedL (rs ++ [r]) k = (usedL rs k || usesB r k) := by unfold usedL; simp
theorem back_from {g : Prog} (h : RightG g) (hu : ∀ k, k < g.atoms.length → usedL g.rules k = true) : fromT (g.rules.map (instG g)) = g := from_back h fun k hk => usedL_iff.1 (hu k hk)
theorem inst_atoms {g : Prog} (h : RightG g) : ∀ i ∈ g.rules.map (instG g), ∀ t ∈ termsI i, atomG t = true := by
  intro i hi t ht
  obtain ⟨r, hr, rfl⟩ := List.mem_map.1 hi
  obtain ⟨k, hk, -, rfl⟩ := (mem_inst h hr).1 ht
  exact h.atoms _ (List.getElem_mem hk)
theorem inst_terms {g : Prog} (h1 : g.rules.length ≤ 200) (h2 : ∀ r ∈ g.rules, r.pos.length ≤ 80 ∧ r.neg.length ≤ 80) : (allT (g.rules.map (instG g))).length ≤ 100000 := by
  have := allT_lenB (n := 161) (l := g.rules.map (instG g)) fun i hi => by
    obtain ⟨r, hr, rfl⟩ := List.mem_map.1 hi
    have := h2 r hr
    rw [terms_len]; unfold instG; simp; omega
  rw [List.length_map] at this
  omega
theorem ProgV.bnd {S : Nat → Prop} {w : World} {v : Value} {g : Prog} (h : ProgV S w v g) : ProgV (fun b => S b ∧ b < w.heap.size) w v g := by
  obtain ⟨a, r, e, h1, h2⟩ := h
  exact ⟨a, r, e, h1.bnd, h2.bnd⟩
theorem ProgV.at' {S : Nat → Prop} {w w' : World} {v : Value} {g : Prog} (h : ProgV S w v g) (hb : Below w.heap.size w w') : ProgV S w' v g := h.mono (fun _ h _ => h) fun b _ hlt => hb.block b hlt
theorem infoBool16 : (Tryz.prog.info? 4).map (fun i => (i.zero, i.size, i.bytes)) = some (some (.bool false), 1, 1) := by kernel_rfl
section
variable {P : Program} {o : Oper} {a : Act} {Q : Exit → Act → World → Prop}
theorem wp_app_insK {S Sy : Nat → Prop} {w wm : World} {K : Act → World → Prop} (s x : Operand) (t : TypeId)
    (ho : o.op = .call { callee := .builtin .append, args := #[s, x], argTypes := #[t, t] })
    {base : Nat} {e : TypeId} (ht : P.underlying t = some (.slice e)) (hi : (P.info? e).map (fun i => (i.zero, i.size, i.bytes)) = some (some (.agg #[.slice none 0 0, .slice none 0 0, .slice none 0 0]), 3, 72))
    {v : Value} {xs : List Ins} (hs : a.eval s = v) (hown : Own instE S base e wm v xs) {B c : Nat} (hx : a.eval x = .slice (some ⟨B, 0, none⟩) 1 c)
    (hbw : Below wm.heap.size wm w) {y : Ins} {vh vp vn : Value} (hh : Seq cellE Sy w vh y.head) (hp : Seq (seqE cellE) Sy w vp y.pos) (hn : Seq (seqE cellE) Sy w vn y.neg) (hS : ∀ b, Sy b → b < w.heap.size → S b ∧ (b < base ∨ wm.heap.size ≤ b))
    (hc0 : w.cell? ⟨B, 0, none⟩ = some vh) (hc1 : w.cell? ⟨B, 1, none⟩ = some vp) (hc2 : w.cell? ⟨B, 2, none⟩ = some vn) (hbytes : xs.length ≤ 1000000000000) (hbase : base ≤ wm.heap.size)
    (h : ∀ ao cap w', Own instE S base e w' (.slice ao (xs.length + 1) cap) (xs ++ [y]) → Kept base wm w w' v (.slice ao (xs.length + 1) cap) → K (a.put o.dst (.slice ao (xs.length + 1) cap)) w') : o.wp P a w K Q :=
  wp_app1 (E := instE) (Sy := Sy) (y := y) (cs := [vh, vp, vn]) s x t ho ht hi rfl hs hown hbw _ _ hx ⟨vh, vp, vn, rfl, hh, hp, hn⟩ hS
    (by
      intro j hj
      have h3 : j < 3 := hj
      rcases (show j = 0 ∨ j = 1 ∨ j = 2 by omega) with rfl | rfl | rfl
      · exact hc0
      · exact hc1
      · exact hc2) (by omega) (by simp only [maxLen]; omega) hbase h
end
/-! ### Rows of bools, written in place -/
def mkU (s : List Bool) (j : Nat) : Bool := s[j]?.getD false
theorem mkU_get {s : List Bool} {j : Nat} (hj : j < s.length) : s[j] = mkU s j := by unfold mkU; rw [List.getElem?_eq_getElem hj]; rfl
theorem mkU_put {s : List Bool} {k j : Nat} {b : Bool} (hk : k < s.length) : mkU (s.set k b) j = if j = k then b else mkU s j := by
  unfold mkU
  rw [List.getElem?_set]
  by_cases h : k = j
  · subst h; simp [hk]
  · rw [if_neg h, if_neg (fun e => h e.symm)]
theorem mkU_rep (n j : Nat) : mkU (List.replicate n false) j = false := by
  unfold mkU; rw [List.getElem?_replicate]; split <;> rfl
def usesTo (r : Rule) (p n : Nat) (k : Nat) : Bool := decide (r.head = (k : Int)) || (decide ((k : Int) ∈ r.pos.take p) || decide ((k : Int) ∈ r.neg.take n))
theorem usesTo_all (r : Rule) (k : Nat) : usesTo r r.pos.length r.neg.length k = usesB r k := by unfold usesTo usesB; rw [List.take_length, List.take_length]
theorem usesTo_pos {r : Rule} {p : Nat} (hp : p < r.pos.length) (k : Nat) : usesTo r (p + 1) 0 k = (usesTo r p 0 k || decide ((k : Int) = r.pos[p])) := by
  unfold usesTo
  rw [List.take_succ_eq_append_getElem hp]
  rw [Bool.eq_iff_iff]
  simp only [Bool.or_eq_true, decide_eq_true_eq, List.mem_append, List.mem_singleton, List.take_zero, List.not_mem_nil, or_false]
  exact or_assoc.symm
theorem usesTo_neg {r : Rule} {p : Nat} (hp : p < r.neg.length) (k : Nat) : usesTo r r.pos.length (p + 1) k = (usesTo r r.pos.length p k || decide ((k : Int) = r.neg[p])) := by
  unfold usesTo
  rw [List.take_succ_eq_append_getElem hp]
  rw [Bool.eq_iff_iff]
  simp only [Bool.or_eq_true, decide_eq_true_eq, List.mem_append, List.mem_singleton, or_assoc]
theorem put_used {N : Nat} {s : List Bool} {f f' : Nat → Bool} {x : Nat} (hs : s.length = N) (hx : x < N) (hf : ∀ j, j < N → mkU s j = f j) (hf' : ∀ j, j < N → f' j = (f j || decide (j = x))) : ∀ j, j < N → mkU (s.set x true) j = f' j := fun j hj => by
  rw [mkU_put (by omega), hf' j hj]
  by_cases e : j = x
  · rw [if_pos e]; simp [e]
  · rw [if_neg e, hf j hj]; simp [e]
theorem ints_true {S T : Nat → Prop} {w : World} {v u : Value} {a b : List Int} (e : a = b) (ha : Seq intE S w v a) (hb : Seq intE T w u b) : Calls Tryz.prog 21 #[v, u] w (RetV (.bool true) w) :=
  (IntsR_spec ha hb).mono fun _ _ h => ⟨by rw [h.1, decide_eq_true e], h.2.below _⟩
theorem right_sm {g : Prog} (h : RightG g) (hn : g.atoms.length ≤ 1000000) : SmG g := fun r hr => by
  have key : ∀ l : List Int, (∀ x ∈ l, 0 ≤ x ∧ x < g.atoms.length) → SmI l := fun l hl x hx => by have := hl x hx; omega
  exact ⟨by have := h.head r hr; omega, key _ (h.pos r hr).1, key _ (h.neg r hr).1⟩
theorem cut_right {g : Prog} (h : RightG g) (a : Int) : RightG (cutG g a) := by
  unfold cutG
  split
  · rename_i h1
    exact only_right h (leads_closed h (by omega))
  · exact ⟨by simp, List.Pairwise.nil, by simp, by simp, by simp, List.Pairwise.nil⟩
theorem cut_len (g : Prog) (a : Int) : (cutG g a).atoms.length ≤ g.atoms.length := by
  unfold cutG
  split
  · rw [only_len]; exact leads_len g _
  · exact Nat.zero_le _
end Go.Proofs.YtaedgpcmkagpeaaGreat
