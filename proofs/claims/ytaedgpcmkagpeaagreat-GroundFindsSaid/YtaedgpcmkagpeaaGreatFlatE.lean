/-
  Rows of one's own, known whole: elements of any kind laid flat; clear at any kind; a row sorted.
-/
import Derived.Test.YtaedgpcmkagpeaaGreatBaseC
import Derived.Laws.CopyOwn
import Derived.Lib.SliceRun
namespace Go.Proofs.YtaedgpcmkagpeaaGreat
open Go Go.RowKit

/-! ### Cells put into a row -/
theorem splice_cons {α : Type} (L : List α) (o : Nat) (v : α) (r : List α) (h : o + (r.length + 1) ≤ L.length) : splice (L.set o v) (o + 1) r = splice L o (v :: r) := by
  unfold splice
  have h1 : (L.set o v).take (o + 1) = L.take o ++ [v] := by
    rw [List.take_succ_eq_append_getElem (by simp; omega), List.take_set_of_le (Nat.le_refl _)]; simp
  have h2 : (L.set o v).drop (o + 1 + r.length) = L.drop (o + (r.length + 1)) := by
    rw [List.drop_set_of_lt (by omega)]; congr 1; omega
  rw [h1, h2]; simp
theorem splice_take {α : Type} (L : List α) (o : Nat) (cs : List α) (h : o ≤ L.length) : (splice L o cs).take o = L.take o := by
  unfold splice
  exact List.take_left' (by rw [List.length_take]; omega)
theorem splice_len {α : Type} (L : List α) (o : Nat) (cs : List α) (h : o + cs.length ≤ L.length) : (splice L o cs).length = L.length := by
  unfold splice
  simp; omega
theorem Row.setCells {T : TypeId} {g : Nat} : ∀ {vs : List Value} {o : Nat} {w : World} {cur : List Value}, Row T w g cur → o + vs.length ≤ cur.length → Row T (w.setCells g o vs) g (splice cur o vs)
  | [], o, w, cur, h, _ => by simpa [World.setCells, splice] using h
  | v :: r, o, w, cur, h, hl => by
    have h1 := Row.setCells (vs := r) (o := o + 1) (h.set o v) (by simp at hl ⊢; omega)
    rw [splice_cons cur o v r (by simpa using hl)] at h1
    exact h1
theorem grown_setCell (w : World) (g o : Nat) (v : Value) : w.grownBy (w.setCell ⟨g, o, none⟩ v) (some g) :=
  ⟨rfl, rfl, rfl, by simp, fun k _ hk => Below.heap_setCell _ _ _ _ (fun e => hk (by rw [e]))⟩
theorem grown_trans {w w1 w2 : World} {g : Option Nat} (h : w.grownBy w1 g) (h2 : w1.grownBy w2 g) : w.grownBy w2 g :=
  ⟨h2.os.trans h.os, h2.tape.trans h.tape, h2.output.trans h.output, Nat.le_trans h.size h2.size, fun k hk hne => (h2.block k (Nat.lt_of_lt_of_le hk h.size) hne).trans (h.block k hk hne)⟩
theorem grown_setCells (g : Nat) : ∀ (vs : List Value) (o : Nat) (w : World), w.grownBy (w.setCells g o vs) (some g)
  | [], _, _ => World.grownBy.refl _ _
  | v :: r, o, w => grown_trans (grown_setCell w g o v) (grown_setCells g r (o + 1) _)
theorem grown_below {B g : Nat} {w w' : World} (h : w.grownBy w' (some g)) (hg : B ≤ g) (hB : B ≤ w.heap.size) : Below B w w' :=
  ⟨h.os, h.tape, h.output, h.size, fun k hk => h.block k (by omega) (fun e => by simp at e; omega)⟩

/-- 'clear(s)', the elements of whatever cells. -/
theorem run_clear_sliceK {P : Program} (w : World) (t e ty : TypeId) (z : Value) (ht : P.underlying t = some (.slice e)) (hv : ∀ w, (zeroValue e).run P w = .ok z w) (h1 : ∀ u ∈ z.cells.toList, u.oneCell' = true) (b o n c : Nat) (hn : 0 < n)
    (hc : ∀ j, j < n * z.cells.size → (w.cell? ⟨b, o + j, none⟩).isSome = true) (hf : ∀ j, j < n * z.cells.size → w.frozen? ⟨b, o + j, none⟩ = false) :
    (Builtin.clear_ #[t] ty #[.slice (some ⟨b, o, none⟩) n c]).run P w = .ok (.tuple #[]) (w.setCells b o (Builtin.zeroCells z.cells n).toList) := by
  have hl : (Builtin.zeroCells z.cells n).toList.length = n * z.cells.size := by simp [Builtin.zeroCells]
  have hst := run_storeCells_cells (P := P) b o (Builtin.zeroCells z.cells n).toList 0 w (by intro j hj; rw [hl] at hj; simpa using hc j hj) (by intro j hj; rw [hl] at hj; simpa using hf j hj) (by
    intro v hv'
    obtain ⟨i, hi, rfl⟩ := List.mem_iff_getElem.1 hv'
    have hi' : i < n * z.cells.size := by rw [hl] at hi; exact hi
    have hz : 0 < z.cells.size := by rcases Nat.eq_zero_or_pos z.cells.size with h | h; · rw [h] at hi'; simp at hi'
                                     · exact h
    have hm : i % z.cells.size < z.cells.size := Nat.mod_lt _ hz
    refine h1 _ ?_
    simp [Builtin.zeroCells, getElem!_pos, hm])
  simp only [Nat.add_zero] at hst
  obtain ⟨m, rfl⟩ : ∃ m, n = m + 1 := ⟨n - 1, by omega⟩
  simp [Builtin.clear_, run_underlying ht, hv, hst]

/-! ### Elements laid flat -/
def FlatE {α : Type} (E : Elt α) (S : Nat → Prop) (w : World) (vs : List Value) (l : List α) : Prop :=
  vs.length = l.length * E.sz ∧ ∀ k x, l[k]? = some x → ∃ cs, E.R S w x cs ∧ ∀ j, j < E.sz → vs[k * E.sz + j]? = cs[j]?
section
variable {α : Type} {E : Elt α} {S T : Nat → Prop} {w w' : World} {vs us : List Value} {l m : List α}
theorem FlatE.mono (h : FlatE E S w vs l) (hT : ∀ b, S b → b < w.heap.size → T b) (hw : ∀ b, S b → b < w.heap.size → w'.heap[b]? = w.heap[b]?) : FlatE E T w' vs l :=
  ⟨h.1, fun k r hk => by obtain ⟨c, h1, h2⟩ := h.2 k r hk; exact ⟨c, E.mono h1 hT hw, h2⟩⟩
theorem FlatE.nil : FlatE E S w [] ([] : List α) := ⟨by simp, fun k x h => by simp at h⟩
theorem FlatE.single {x : α} {cs : List Value} (h : E.R S w x cs) : FlatE E S w cs [x] := by
  refine ⟨by rw [E.len h]; simp, fun k y hk => ?_⟩
  obtain rfl : k = 0 := by have := (List.getElem?_eq_some_iff.1 hk).1; simp at this; omega
  simp at hk; subst hk
  exact ⟨cs, h, fun j _ => by simp⟩
theorem FlatE.append (h : FlatE E S w vs l) (h' : FlatE E S w us m) : FlatE E S w (vs ++ us) (l ++ m) := by
  refine ⟨by rw [List.length_append, List.length_append, h.1, h'.1, Nat.add_mul], fun k r hk => ?_⟩
  rcases Nat.lt_or_ge k l.length with hlt | hge
  · rw [List.getElem?_append_left hlt] at hk
    obtain ⟨c, h1, h2⟩ := h.2 k r hk
    exact ⟨c, h1, fun j hj => by rw [List.getElem?_append_left (by rw [h.1]; exact chunk_lt hlt hj)]; exact h2 j hj⟩
  · rw [List.getElem?_append_right hge] at hk
    obtain ⟨c, h1, h2⟩ := h'.2 _ r hk
    have := Nat.mul_le_mul_right E.sz hge
    refine ⟨c, h1, fun j hj => ?_⟩
    rw [List.getElem?_append_right (by rw [h.1]; omega), ← h2 j hj, h.1]
    congr 1
    rw [Nat.sub_mul]; omega
theorem FlatE.take (h : FlatE E S w vs l) (k : Nat) (hk : k ≤ l.length) : FlatE E S w (vs.take (k * E.sz)) (l.take k) := by
  have e := Nat.mul_le_mul_right E.sz hk
  refine ⟨by rw [List.length_take, List.length_take, h.1, Nat.min_eq_left e, Nat.min_eq_left hk], fun i r hi => ?_⟩
  have hi' : i < k := by have := (List.getElem?_eq_some_iff.1 hi).1; rw [List.length_take] at this; omega
  rw [List.getElem?_take_of_lt hi'] at hi
  obtain ⟨c, h1, h2⟩ := h.2 i r hi
  exact ⟨c, h1, fun j hj => by rw [List.getElem?_take_of_lt (chunk_lt hi' hj)]; exact h2 j hj⟩
theorem FlatE.drop (h : FlatE E S w vs l) (k : Nat) : FlatE E S w (vs.drop (k * E.sz)) (l.drop k) := by
  refine ⟨by rw [List.length_drop, List.length_drop, h.1, Nat.sub_mul], fun i r hi => ?_⟩
  rw [List.getElem?_drop] at hi
  obtain ⟨c, h1, h2⟩ := h.2 _ r hi
  exact ⟨c, h1, fun j hj => by rw [List.getElem?_drop, ← h2 j hj]; congr 1; rw [Nat.add_mul]; omega⟩
/-- A row of one's own, known whole. -/
theorem Own.flatE {base : Nat} {e : TypeId} {v : Value} (h : Own E S base e w v l) (hl : l ≠ []) :
    ∃ g cap cur, v = .slice (some ⟨g, 0, none⟩) l.length cap ∧ base ≤ g ∧ l.length ≤ cap ∧ cap ≤ maxLen ∧ cur.length = cap * E.sz ∧ Row e w g cur ∧ FlatE E (fun b => S b ∧ b ≠ g) w (cur.take (l.length * E.sz)) l := by
  obtain ⟨vs, ⟨h1, h2⟩, h3⟩ := h
  rcases h2 with ⟨-, h0⟩ | ⟨g, cap, cur, rfl, hb, hg, hc, hm, hs, ht⟩
  · exact absurd (List.eq_nil_of_length_eq_zero h0) hl
  · refine ⟨g, cap, cur.toList, rfl, hb, hc, hm, by simpa using hs, hg, ?_⟩
    rw [ht]
    refine ⟨h1, fun k x hk => ?_⟩
    obtain ⟨cs, h4, h5⟩ := h3 k x hk
    exact ⟨cs, E.mono h4 (fun b hb _ => ⟨hb.1, fun e => hb.2 (by simp [Value.ownBlock, e])⟩) fun _ _ _ => rfl, h5⟩
theorem FlatE.own {base g cap n : Nat} {e : TypeId} {cur : List Value} (hR : Row e w g cur) (hn : n = l.length) (h : FlatE E (fun b => S b ∧ b ≠ g) w (cur.take (n * E.sz)) l) (hb : base ≤ g) (hcl : cur.length = cap * E.sz) (hcap : n ≤ cap) (hm : cap ≤ maxLen) :
    Own E S base e w (.slice (some ⟨g, 0, none⟩) n cap) l := by
  subst hn
  refine ⟨cur.take (l.length * E.sz), ⟨h.1, .inr ⟨g, cap, cur.toArray, rfl, hb, hR, hcap, hm, by simpa using hcl, by simp⟩⟩, fun k t hk => ?_⟩
  obtain ⟨cs, h1, h2⟩ := h.2 k t hk
  exact ⟨cs, E.mono h1 (fun b hb _ => ⟨hb.1, fun e => hb.2 (by simpa [Value.ownBlock] using e.symm)⟩) fun _ _ _ => rfl, h2⟩
end
end Go.Proofs.YtaedgpcmkagpeaaGreat
