/-
  An append to a row of one's own, known in the world as it stands (a box may have been written since it was last seen).
-/
import Derived.Test.YtceipnlpofebmaaBaseC
namespace Go.Proofs.Ytceipnlpofebmaa
open Go Go.RowKit

theorem own_appendW {α : Type} {E : Elt α} {S Sy : Nat → Prop} {base : Nat} {e : TypeId} {w w' : World} {v v' : Value} {xs ys : List α} {vs news : List Value}
    (hv1 : w.ownsRow base e E.sz v xs.length vs) (hv2 : ∀ k x, xs[k]? = some x → ∃ cs, E.R (fun b => S b ∧ v.ownBlock ≠ some b) w x cs ∧ ∀ j, j < E.sz → vs[k * E.sz + j]? = cs[j]?)
    (hS : ∀ b, Sy b → b < w.heap.size → S b ∧ v.ownBlock ≠ some b)
    (hys : ∀ k y, ys[k]? = some y → ∃ cs, E.R Sy w y cs ∧ ∀ j, j < E.sz → news[k * E.sz + j]? = cs[j]?)
    (hown' : w'.ownsRow base e E.sz v' (xs.length + ys.length) (vs ++ news)) (hgrow : w.grownBy w' v.ownBlock) (hat : v'.ownBlock = v.ownBlock ∨ v'.ownBlock = some w.heap.size) :
    Own E S base e w' v' (xs ++ ys) := by
  refine ⟨vs ++ news, by simpa using hown', fun k x hx => ?_⟩
  have hne : ∀ b, b < w.heap.size → v.ownBlock ≠ some b → v'.ownBlock ≠ some b := by
    intro b hb h1 h2
    rcases hat with h | h
    · exact h1 (h ▸ h2)
    · rw [h] at h2; simp at h2; omega
  have hkeep : ∀ b, v.ownBlock ≠ some b → b < w.heap.size → w'.heap[b]? = w.heap[b]? := fun b hb hlt' => hgrow.block b hlt' (fun e => hb e.symm)
  rcases Nat.lt_or_ge k xs.length with hk | hk
  · rw [List.getElem?_append_left hk] at hx
    obtain ⟨cs, h1, h2⟩ := hv2 k x hx
    refine ⟨cs, E.mono h1 (fun b hb hlt' => ⟨hb.1, hne b hlt' hb.2⟩) (fun b hb hlt' => hkeep b hb.2 hlt'), fun j hj => ?_⟩
    rw [List.getElem?_append_left (by rw [hv1.1]; exact chunk_lt hk hj), h2 j hj]
  · rw [List.getElem?_append_right hk] at hx
    obtain ⟨cs, h1, h2⟩ := hys _ x hx
    refine ⟨cs, E.mono h1 (fun b hb hlt' => ⟨(hS b hb hlt').1, hne b hlt' (hS b hb hlt').2⟩) (fun b hb hlt' => hkeep b (hS b hb hlt').2 hlt'), fun j hj => ?_⟩
    have hlen : vs.length = xs.length * E.sz := hv1.1
    have : xs.length * E.sz ≤ k * E.sz := Nat.mul_le_mul_right _ hk
    rw [List.getElem?_append_right (by omega), hlen, ← h2 j hj]
    congr 1
    rw [Nat.sub_mul]
    omega

/-- What such an append leaves: all blocks but the row's own. -/
structure KeptW (base : Nat) (w w' : World) (v v' : Value) : Prop where
  below : Below base w w'
  keep : ∀ b, b < w.heap.size → v.ownBlock ≠ some b → w'.heap[b]? = w.heap[b]?
  blk : v'.ownBlock = v.ownBlock ∨ v'.ownBlock = some w.heap.size

section
variable {P : Program} {ops : Array Oper} {rest : List Oper} {o : Oper} {a : Act} {Q : Exit → Act → World → Prop}
theorem wpList_app1W {α : Type} {E : Elt α} {S Sy : Nat → Prop} {w : World} (hgd : o.guard = none) (s x : Operand) (t : TypeId)
    (ho : o.op = .call { callee := .builtin .append, args := #[s, x], argTypes := #[t, t] })
    {base : Nat} {e : TypeId} {z : Value} {bytes : Nat} (ht : P.underlying t = some (.slice e)) (hi : (P.info? e).map (fun i => (i.zero, i.size, i.bytes)) = some (some z, E.sz, bytes))
    (hzs : z.cells.size = E.sz) {v : Value} {xs : List α} (hs : a.eval s = v) (hown : Own E S base e w v xs)
    (ad : Addr) (c : Nat) (hx : a.eval x = .slice (some ad) 1 c) {y : α} {cs : List Value} (hy : E.R Sy w y cs) (hS : ∀ b, Sy b → b < w.heap.size → S b ∧ v.ownBlock ≠ some b)
    (hcs : ∀ j, j < E.sz → w.cell? (ad.add j) = cs[j]?)
    (hbytes : (xs.length + 1) * bytes ≤ 140737488355328) (h63 : xs.length + 1 ≤ maxLen) (hbase : base ≤ w.heap.size)
    (h : ∀ ao cap w', Own E S base e w' (.slice ao (xs.length + 1) cap) (xs ++ [y]) → KeptW base w w' v (.slice ao (xs.length + 1) cap) → wpList P ops Q rest (a.put o.dst (.slice ao (xs.length + 1) cap)) w') : wpList P ops Q (o :: rest) a w := by
  obtain ⟨i, hi1, hz0, hz1, hz2⟩ := info_parts hi
  obtain ⟨vs, hv1, hv2⟩ := hown
  have hlt := hv1.lt
  have hlen := E.len hy
  refine wpList_append_own_at w hgd s x t ho base e i z E.sz bytes ht hi1 hz0 hz1 hz2 hzs E.pos v xs.length vs hs (ownsRow_at hv1 fun _ _ => rfl) ad 1 c cs hx (by simpa using hlen) ?_ (E.one hy) h63 hbytes hbase ?_
  · intro j u hj
    have hj' : j < E.sz := by have := (List.getElem?_eq_some_iff.1 hj).1; omega
    rw [hcs j hj', hj]
  · intro v' w' hown' hgrow _ hat
    obtain ⟨ao, cap, rfl, -, -⟩ := own_shape hown'
    refine h ao cap w' (own_appendW hv1 hv2 hS ?_ (by simpa using hown') hgrow hat) ⟨⟨hgrow.os, hgrow.tape, hgrow.output, hgrow.size, fun k hk => hgrow.block k (by omega) (fun e => by have := hlt k e.symm; omega)⟩, fun b h1 h2 => hgrow.block b h1 (fun e => h2 e.symm), hat⟩
    intro k y' hk
    obtain rfl : k = 0 := by have := (List.getElem?_eq_some_iff.1 hk).1; simp at this; omega
    simp at hk; subst hk
    exact ⟨cs, hy, by simp⟩
theorem wpList_app_seqW {α : Type} {E : Elt α} {S Sy : Nat → Prop} {w : World} (hgd : o.guard = none) (s x : Operand) (t : TypeId)
    (ho : o.op = .call { callee := .builtin .append, args := #[s, x], argTypes := #[t, t] })
    {base : Nat} {e : TypeId} (ht : P.underlying t = some (.slice e)) (hi : (P.info? e).map (fun i => (i.zero, i.size, i.bytes)) = some (some (.slice none 0 0), 1, 24))
    {v : Value} {xs : List (List α)} (hs : a.eval s = v) (hown : Own (seqE E) S base e w v xs) {B c : Nat} (hx : a.eval x = .slice (some ⟨B, 0, none⟩) 1 c)
    {y : List α} {vy : Value} (hy : Seq E Sy w vy y) (hS : ∀ b, Sy b → b < w.heap.size → S b ∧ v.ownBlock ≠ some b) (hcs : w.cell? ⟨B, 0, none⟩ = some vy) (hbytes : xs.length ≤ 1000000000000) (hbase : base ≤ w.heap.size)
    (h : ∀ ao cap w', Own (seqE E) S base e w' (.slice ao (xs.length + 1) cap) (xs ++ [y]) → KeptW base w w' v (.slice ao (xs.length + 1) cap) → wpList P ops Q rest (a.put o.dst (.slice ao (xs.length + 1) cap)) w') : wpList P ops Q (o :: rest) a w :=
  wpList_app1W (E := seqE E) (Sy := Sy) (y := y) (cs := [vy]) hgd s x t ho ht hi rfl hs hown _ _ hx ⟨vy, rfl, hy⟩ hS
    (by intro j hj; obtain rfl : j = 0 := (by have : j < 1 := hj; omega); exact hcs) (by omega) (by simp only [maxLen]; omega) hbase h
end
end Go.Proofs.Ytceipnlpofebmaa
