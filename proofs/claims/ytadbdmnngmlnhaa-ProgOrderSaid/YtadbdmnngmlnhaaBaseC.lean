/-
  The base, third part: one step further; a row's cells elsewhere; elements that stand elsewhere too; what a slice's numbers are.
-/
import Derived.Test.YtadbdmnngmlnhaaBaseB
namespace Go.Proofs.Ytadbdmnngmlnhaa
open Go Go.RowKit

theorem below_step {w0 w w' : World} (h : Below w.heap.size w w') (h0 : Below w0.heap.size w0 w) : Below w0.heap.size w0 w' := h0.trans (h.mono h0.size)
theorem rowTo {T : TypeId} {W w' : World} {B : Nat} {vs : List Value} (h : Row T W B vs) (hb : Below W.heap.size W w') : Row T w' B vs := h.below hb h.lt

theorem Own.blk {α : Type} {E : Elt α} {S : Nat → Prop} {base : Nat} {e : TypeId} {w : World} {v : Value} {l : List α} (h : Own E S base e w v l) {b : Nat} (hb : v.ownBlock = some b) : base ≤ b ∧ b < w.heap.size := by
  obtain ⟨vs, h1, _⟩ := h; exact h1.lt b hb
theorem Own.shape {α : Type} {E : Elt α} {S : Nat → Prop} {base : Nat} {e : TypeId} {w : World} {v : Value} {l : List α} (h : Own E S base e w v l) : ∃ ao cap, v = .slice ao l.length cap ∧ l.length ≤ cap ∧ cap ≤ maxLen := by
  obtain ⟨vs, h1, _⟩ := h
  obtain ⟨ao, cap, rfl, h2, h3, -⟩ := own_shape h1
  exact ⟨ao, cap, rfl, h2, h3⟩
theorem Own.reS {α : Type} {E : Elt α} {S T : Nat → Prop} {base : Nat} {e : TypeId} {w : World} {v : Value} {xs : List α} (h : Own E S base e w v xs)
    (hT : ∀ b, S b → b < w.heap.size → v.ownBlock ≠ some b → T b) : Own E T base e w v xs := by
  obtain ⟨vs, h1, h2⟩ := h
  refine ⟨vs, h1, fun k x hx => ?_⟩
  obtain ⟨cs, h3, h4⟩ := h2 k x hx
  exact ⟨cs, E.mono h3 (fun b hb hl => ⟨hT b hb.1 hl hb.2, hb.2⟩) (fun _ _ _ => rfl), h4⟩
theorem Own.moveO {α : Type} {E : Elt α} {S : Nat → Prop} {base : Nat} {e : TypeId} {w w' : World} {v : Value} {xs : List α} (h : Own E S base e w v xs)
    (hw : ∀ b, b < w.heap.size → v.ownBlock = some b → w'.heap[b]? = w.heap[b]?) (hS : ∀ b, b < w.heap.size → S b → w'.heap[b]? = w.heap[b]?) : Own E S base e w' v xs := by
  obtain ⟨vs, h1, h2⟩ := h
  refine ⟨vs, ownsRow_at h1 fun k hk => hw k (h1.lt k hk).2 hk, fun k x hx => ?_⟩
  obtain ⟨cs, h3, h4⟩ := h2 k x hx
  exact ⟨cs, E.mono h3 (fun _ h _ => h) (fun b hb hlt => hS b hlt hb.1), h4⟩
/-- Told to others, the block said. -/
theorem Own.seqB {α : Type} {E : Elt α} {S : Nat → Prop} {base : Nat} {e : TypeId} {w : World} {v : Value} {xs : List α} (h : Own E S base e w v xs)
    (hl : xs.length ≤ 140737488355328) {T : Nat → Prop} (hT : ∀ b, b < w.heap.size → S b ∨ v.ownBlock = some b → T b) : Seq E T w v xs := by
  obtain ⟨vs, h1, h2⟩ := h
  obtain ⟨ao, cap, rfl, h3, h4, h4'⟩ := own_shape h1
  refine ⟨ao, cap, rfl, h3, h4, hl, h4', fun k x hx => ?_⟩
  have hk : k < xs.length := (List.getElem?_eq_some_iff.1 hx).1
  obtain ⟨cs, h5, h6⟩ := h2 k x hx
  have hbnd : ∀ j, j < E.sz → k * E.sz + j < xs.length * E.sz := fun j hj => chunk_lt hk hj
  obtain ⟨g, cap', hv, hg, hlt, -, -⟩ := own_cell h1 (hbnd 0 E.pos)
  have hob : Value.ownBlock (.slice ao xs.length cap) = some g := by rw [hv]; rfl
  refine ⟨g, 0, cs, by simpa using congrArg (fun v : Value => match v with | .slice a _ _ => a | _ => none) hv, hT g hlt (.inr hob), hlt, E.mono h5 (fun b hb hlt => hT b hlt (.inl hb.1)) (fun _ _ _ => rfl), fun j hj => ?_⟩
  obtain ⟨g', cap'', hv', _, _, hc, _⟩ := own_cell h1 (hbnd j hj)
  rw [hv] at hv'
  simp only [Value.slice.injEq, Option.some.injEq, Addr.mk.injEq] at hv'
  obtain ⟨⟨rfl, _⟩, _⟩ := hv'
  rw [Nat.zero_add, hc, h6 j hj]

/-- It only reads the world ahead: all that it leaves behind is what it gives. -/
theorem Seq.any {α : Type} {E : Elt α} {S : Nat → Prop} {w : World} {v : Value} {xs : List α} (h : Seq E S w v xs) : Seq E (fun _ => True) w v xs := h.mono (fun _ _ _ => trivial) fun _ _ _ => rfl
theorem Seq.shape {α : Type} {E : Elt α} {S : Nat → Prop} {w : World} {v : Value} {xs : List α} (h : Seq E S w v xs) : ∃ ao cap, v = .slice ao xs.length cap := by
  obtain ⟨ao, cap, rfl, -⟩ := h; exact ⟨ao, cap, rfl⟩
end Go.Proofs.Ytadbdmnngmlnhaa
