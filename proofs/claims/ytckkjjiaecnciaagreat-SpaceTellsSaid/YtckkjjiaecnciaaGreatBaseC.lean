/-
  The base, second part: pieces of slices; an append of a whole slice.
  The base, third part: one step further; a row's cells elsewhere; elements that stand elsewhere too; what a slice's numbers are.
  Worlds that only drew and made blocks: what slices.SortFunc wants of its comparator.
-/
import Derived.Test.YtckkjjiaecnciaaGreatBase
import Derived.Sort.Grow
namespace Go.Proofs.YtckkjjiaecnciaaGreat
section
section
open Go Go.RowKit

/-- A piece of a slice. -/
theorem Seq.piece {α : Type} {E : Elt α} {S : Nat → Prop} {w : World} {ao : Option Addr} {cap : Nat} {xs : List α} (h : Seq E S w (.slice ao xs.length cap) xs) {i j : Nat} (hij : i ≤ j) (hj : j ≤ xs.length)
    {bo : Option Addr} (hbo : bo = if cap = i then ao else ao.map (·.add (i * E.sz))) {n c : Nat} (hn : n = j - i) (hc : c = cap - i) : Seq E S w (.slice bo n c) ((xs.take j).drop i) := by
  obtain ⟨ao', cap', he, h1, h2, h3, h4, h5⟩ := h
  simp only [Value.slice.injEq, true_and] at he
  obtain ⟨rfl, rfl⟩ := he
  have hlen : ((xs.take j).drop i).length = j - i := by simp; omega
  refine ⟨bo, c, by rw [hlen, hn], by rw [hlen]; omega, by omega, by rw [hlen]; omega, ?_, ?_⟩
  · intro hb
    subst hc
    rw [hbo] at hb
    split at hb
    · rename_i hci; omega
    · cases ao with
      | none => have := h4 rfl; omega
      | some a => simp at hb
  · intro k x hk
    have hk' := (List.getElem?_eq_some_iff.1 hk).1
    rw [hlen] at hk'
    rw [List.getElem?_drop, List.getElem?_take_of_lt (by omega)] at hk
    obtain ⟨b, off, cs, g1, g2, g3, g4, g5⟩ := h5 (i + k) x hk
    subst g1
    have hne : ¬ cap = i := by omega
    refine ⟨b, off + i * E.sz, cs, ?_, g2, g3, g4, fun m hm => ?_⟩
    · rw [hbo, if_neg hne]; simp [Addr.add_lit]
    · rw [← g5 m hm]
      congr 2
      rw [Nat.add_mul]; omega

theorem Seq.take {α : Type} {E : Elt α} {S : Nat → Prop} {w : World} {ao : Option Addr} {cap : Nat} {xs : List α} (h : Seq E S w (.slice ao xs.length cap) xs) {j : Nat} (hj : j ≤ xs.length) : Seq E S w (.slice ao j cap) (xs.take j) := by
  have := h.piece (i := 0) (j := j) (bo := ao) (n := j) (c := cap) (Nat.zero_le _) hj (by cases ao <;> simp [Addr.add]) (by omega) (by omega)
  simpa using this

theorem Seq.drop {α : Type} {E : Elt α} {S : Nat → Prop} {w : World} {ao : Option Addr} {cap : Nat} {xs : List α} (h : Seq E S w (.slice ao xs.length cap) xs) {i : Nat} (hi : i ≤ xs.length)
    {bo : Option Addr} (hbo : bo = if cap = i then ao else ao.map (·.add (i * E.sz))) {n c : Nat} (hn : n = xs.length - i) (hc : c = cap - i) : Seq E S w (.slice bo n c) (xs.drop i) := by
  have := h.piece (i := i) (j := xs.length) hi (Nat.le_refl _) hbo hn hc
  simpa using this

/-- What lies in the world lies below its size. -/
theorem Seq.bnd {α : Type} {E : Elt α} {S : Nat → Prop} {w : World} {v : Value} {xs : List α} (h : Seq E S w v xs) : Seq E (fun b => S b ∧ b < w.heap.size) w v xs :=
  h.mono (fun _ h1 h2 => ⟨h1, h2⟩) fun _ _ _ => rfl

section
variable {P : Program} {ops : Array Oper} {rest : List Oper} {o : Oper} {a : Act} {Q : Exit → Act → World → Prop}

/-- 'append(v, ys...)': the elements behind it by a name. -/
theorem wpList_appL {α : Type} {E : Elt α} {S Sy : Nat → Prop} {w wm : World} (hgd : o.guard = none) (s x : Operand) (t : TypeId)
    (ho : o.op = .call { callee := .builtin .append, args := #[s, x], argTypes := #[t, t] })
    {base : Nat} {e : TypeId} {z : Value} {bytes : Nat} (ht : P.underlying t = some (.slice e)) (hi : (P.info? e).map (fun i => (i.zero, i.size, i.bytes)) = some (some z, E.sz, bytes))
    (hzs : z.cells.size = E.sz) {v : Value} {xs : List α} (hs : a.eval s = v) (hown : Own E S base e wm v xs) (hbw : Below wm.heap.size wm w)
    {ys : List α} {vy : Value} (hx : a.eval x = vy) (hy : Seq E Sy w vy ys) (hS : ∀ b, Sy b → b < w.heap.size → S b ∧ (b < base ∨ wm.heap.size ≤ b))
    {zs : List α} (hz : zs = xs ++ ys) (hby : bytes ≤ 100) (hbytes : zs.length ≤ 1000000000000) (hbase : base ≤ wm.heap.size)
    (h : ∀ ao cap w', Own E S base e w' (.slice ao zs.length cap) zs → Kept base wm w w' v (.slice ao zs.length cap) → wpList P ops Q rest (a.put o.dst (.slice ao zs.length cap)) w') : wpList P ops Q (o :: rest) a w := by
  have hl : zs.length = xs.length + ys.length := by rw [hz, List.length_append]
  have hb2 : (xs.length + ys.length) * bytes ≤ (xs.length + ys.length) * 100 := Nat.mul_le_mul_left _ hby
  refine wpList_appN (E := E) (S := S) (Sy := Sy) (wm := wm) hgd s x t ho ht hi hzs hs hown hbw hx hy hS (by omega) (by simp only [maxLen]; omega) hbase ?_
  intro ao cap w' h1 h2 h3 h4
  rw [← hl, ← hz] at h1
  rw [← hl] at h4 ⊢
  exact h ao cap w' h1 (Kept.of h2 h3 hbw hbase h4)

/-- The same as 'wpList_app1', at the operation itself. -/
theorem wp_app1 {α : Type} {E : Elt α} {S Sy : Nat → Prop} {w wm : World} {K : Act → World → Prop} (s x : Operand) (t : TypeId)
    (ho : o.op = .call { callee := .builtin .append, args := #[s, x], argTypes := #[t, t] })
    {base : Nat} {e : TypeId} {z : Value} {bytes : Nat} (ht : P.underlying t = some (.slice e)) (hi : (P.info? e).map (fun i => (i.zero, i.size, i.bytes)) = some (some z, E.sz, bytes))
    (hzs : z.cells.size = E.sz) {v : Value} {xs : List α} (hs : a.eval s = v) (hown : Own E S base e wm v xs) (hbw : Below wm.heap.size wm w)
    (ad : Addr) (c : Nat) (hx : a.eval x = .slice (some ad) 1 c) {y : α} {cs : List Value} (hy : E.R Sy w y cs) (hS : ∀ b, Sy b → b < w.heap.size → S b ∧ (b < base ∨ wm.heap.size ≤ b))
    (hcs : ∀ j, j < E.sz → w.cell? (ad.add j) = cs[j]?)
    (hbytes : (xs.length + 1) * bytes ≤ 140737488355328) (h63 : xs.length + 1 ≤ maxLen) (hbase : base ≤ wm.heap.size)
    (h : ∀ ao cap w', Own E S base e w' (.slice ao (xs.length + 1) cap) (xs ++ [y]) → Kept base wm w w' v (.slice ao (xs.length + 1) cap) → K (a.put o.dst (.slice ao (xs.length + 1) cap)) w') : o.wp P a w K Q := by
  obtain ⟨i, hi1, hz0, hz1, hz2⟩ := info_parts hi
  obtain ⟨vs, hv1, hv2⟩ := hown
  have hlt := hv1.lt
  have hwb : ∀ k, v.ownBlock = some k → w.heap[k]? = wm.heap[k]? := fun k hk => hbw.block k (hlt k hk).2
  have hlen := E.len hy
  obtain ⟨v', w', hr, hown', hgrow, _, hat⟩ := run_append_own_at (P := P) w base t o.type e i z E.sz bytes ht hi1 hz0 hz1 hz2 hzs E.pos v xs.length vs (ownsRow_at hv1 hwb) ad 1 c cs (by simpa using hlen)
    (by
      intro j u hj
      have hj' : j < E.sz := by have := (List.getElem?_eq_some_iff.1 hj).1; omega
      rw [hcs j hj', hj]) (E.one hy) h63 hbytes (Nat.le_trans hbase hbw.size)
  obtain ⟨ao, cap, rfl, -, -⟩ := own_shape hown'
  unfold Oper.wp execOp
  simp only [ho, resolve, invoke, builtin, Sem.run_bind, Sem.run_pure, Result.andThen_ok, List.map_toArray, List.map_cons, List.map_nil, hs, hx, hr]
  refine h ao cap w' (own_append hv1 hv2 hbw hS ?_ (by simpa using hown') hgrow hat) (Kept.of hgrow hlt hbw hbase hat)
  intro k y' hk
  obtain rfl : k = 0 := by have := (List.getElem?_eq_some_iff.1 hk).1; simp at this; omega
  simp at hk; subst hk
  exact ⟨cs, hy, by simp⟩

theorem step_app_rule {S Sy : Nat → Prop} {w wm : World} {K : Act → World → Prop} {X : Prop} (hgd : o.guard = none) (s x : Operand) (t : TypeId)
    (ho : o.op = .call { callee := .builtin .append, args := #[s, x], argTypes := #[t, t] })
    {base : Nat} {e : TypeId} (ht : P.underlying t = some (.slice e)) (hi : (P.info? e).map (fun i => (i.zero, i.size, i.bytes)) = some (some (.agg #[.int .i64 0, .slice none 0 0, .slice none 0 0]), 3, 56))
    {v : Value} {xs : List Rule} (hs : a.eval s = v) (hown : Own ruleE S base e wm v xs) {B c : Nat} (hx : a.eval x = .slice (some ⟨B, 0, none⟩) 1 c)
    (hbw : Below wm.heap.size wm w) {y : Rule} {vp vn : Value} (hh : IntOK y.head) (hp : Seq intE Sy w vp y.pos) (hn : Seq intE Sy w vn y.neg) (hS : ∀ b, Sy b → b < w.heap.size → S b ∧ (b < base ∨ wm.heap.size ≤ b))
    (hc0 : w.cell? ⟨B, 0, none⟩ = some (.int .i64 y.head)) (hc1 : w.cell? ⟨B, 1, none⟩ = some vp) (hc2 : w.cell? ⟨B, 2, none⟩ = some vn) (hbytes : xs.length ≤ 1000000000000) (hbase : base ≤ wm.heap.size)
    (h : ∀ ao cap w', Own ruleE S base e w' (.slice ao (xs.length + 1) cap) (xs ++ [y]) → Kept base wm w w' v (.slice ao (xs.length + 1) cap) → K (a.put o.dst (.slice ao (xs.length + 1) cap)) w') :
    if Region.wanted o (yielded ops a.tmps) = true then o.wp P a w K Q else X := by
  rw [if_pos (by simp [Region.wanted, hgd])]
  exact wp_app1 (E := ruleE) (Sy := Sy) (y := y) (cs := [.int .i64 y.head, vp, vn]) s x t ho ht hi rfl hs hown hbw _ _ hx ⟨vp, vn, rfl, hh, hp, hn⟩ hS
    (by
      intro j hj
      have h3 : j < 3 := hj
      rcases (show j = 0 ∨ j = 1 ∨ j = 2 by omega) with rfl | rfl | rfl
      · exact hc0
      · exact hc1
      · exact hc2) (by omega) (by simp only [maxLen]; omega) hbase h
end
end
section
open Go Go.RowKit

theorem below_step {w0 w w' : World} (h : Below w.heap.size w w') (h0 : Below w0.heap.size w0 w) : Below w0.heap.size w0 w' := h0.trans (h.mono h0.size)
theorem rowTo {T : TypeId} {W w' : World} {B : Nat} {vs : List Value} (h : Row T W B vs) (hb : Below W.heap.size W w') : Row T w' B vs := h.below hb h.lt

theorem Own.blk {α : Type} {E : Elt α} {S : Nat → Prop} {base : Nat} {e : TypeId} {w : World} {v : Value} {l : List α} (h : Own E S base e w v l) {b : Nat} (hb : v.ownBlock = some b) : base ≤ b ∧ b < w.heap.size := by
  obtain ⟨vs, h1, _⟩ := h; exact h1.lt b hb
theorem Own.shape {α : Type} {E : Elt α} {S : Nat → Prop} {base : Nat} {e : TypeId} {w : World} {v : Value} {l : List α} (h : Own E S base e w v l) : ∃ ao cap, v = .slice ao l.length cap ∧ l.length ≤ cap ∧ cap ≤ maxLen := by
  obtain ⟨vs, h1, _⟩ := h
  obtain ⟨ao, cap, rfl, h2, h3, -⟩ := own_shape h1
  exact ⟨ao, cap, rfl, h2, h3⟩
theorem Own.reS {α : Type} {E : Elt α} {S T : Nat → Prop} {base : Nat} {e : TypeId} {w : World} {v : Value} {xs : List α} (h : Own E S base e w v xs)
    (hT : ∀ b, S b → b < w.heap.size → v.ownBlock ≠ some b → T b) : Own E T base e w v xs := by
  obtain ⟨vs, h1, h2⟩ := h
  refine ⟨vs, h1, fun k x hx => ?_⟩
  obtain ⟨cs, h3, h4⟩ := h2 k x hx
  exact ⟨cs, E.mono h3 (fun b hb hl => ⟨hT b hb.1 hl hb.2, hb.2⟩) (fun _ _ _ => rfl), h4⟩
theorem Own.moveO {α : Type} {E : Elt α} {S : Nat → Prop} {base : Nat} {e : TypeId} {w w' : World} {v : Value} {xs : List α} (h : Own E S base e w v xs)
    (hw : ∀ b, b < w.heap.size → v.ownBlock = some b → w'.heap[b]? = w.heap[b]?) (hS : ∀ b, b < w.heap.size → S b → w'.heap[b]? = w.heap[b]?) : Own E S base e w' v xs := by
  obtain ⟨vs, h1, h2⟩ := h
  refine ⟨vs, ownsRow_at h1 fun k hk => hw k (h1.lt k hk).2 hk, fun k x hx => ?_⟩
  obtain ⟨cs, h3, h4⟩ := h2 k x hx
  exact ⟨cs, E.mono h3 (fun _ h _ => h) (fun b hb hlt => hS b hlt hb.1), h4⟩
/-- Told to others, the block said. -/
theorem Own.seqB {α : Type} {E : Elt α} {S : Nat → Prop} {base : Nat} {e : TypeId} {w : World} {v : Value} {xs : List α} (h : Own E S base e w v xs)
    (hl : xs.length ≤ 140737488355328) {T : Nat → Prop} (hT : ∀ b, b < w.heap.size → S b ∨ v.ownBlock = some b → T b) : Seq E T w v xs := by
  obtain ⟨vs, h1, h2⟩ := h
  obtain ⟨ao, cap, rfl, h3, h4, h4'⟩ := own_shape h1
  refine ⟨ao, cap, rfl, h3, h4, hl, h4', fun k x hx => ?_⟩
  have hk : k < xs.length := (List.getElem?_eq_some_iff.1 hx).1
  obtain ⟨cs, h5, h6⟩ := h2 k x hx
  have hbnd : ∀ j, j < E.sz → k * E.sz + j < xs.length * E.sz := fun j hj => chunk_lt hk hj
  obtain ⟨g, cap', hv, hg, hlt, -, -⟩ := own_cell h1 (hbnd 0 E.pos)
  have hob : Value.ownBlock (.slice ao xs.length cap) = some g := by rw [hv]; rfl
  refine ⟨g, 0, cs, by simpa using congrArg (fun v : Value => match v with | .slice a _ _ => a | _ => none) hv, hT g hlt (.inr hob), hlt, E.mono h5 (fun b hb hlt => hT b hlt (.inl hb.1)) (fun _ _ _ => rfl), fun j hj => ?_⟩
  obtain ⟨g', cap'', hv', _, _, hc, _⟩ := own_cell h1 (hbnd j hj)
  rw [hv] at hv'
  simp only [Value.slice.injEq, Option.some.injEq, Addr.mk.injEq] at hv'
  obtain ⟨⟨rfl, _⟩, _⟩ := hv'
  rw [Nat.zero_add, hc, h6 j hj]

/-- It only reads the world ahead: all that it leaves behind is what it gives. -/
theorem Seq.any {α : Type} {E : Elt α} {S : Nat → Prop} {w : World} {v : Value} {xs : List α} (h : Seq E S w v xs) : Seq E (fun _ => True) w v xs := h.mono (fun _ _ _ => trivial) fun _ _ _ => rfl
theorem Seq.shape {α : Type} {E : Elt α} {S : Nat → Prop} {w : World} {v : Value} {xs : List α} (h : Seq E S w v xs) : ∃ ao cap, v = .slice ao xs.length cap := by
  obtain ⟨ao, cap, rfl, -⟩ := h; exact ⟨ao, cap, rfl⟩
end
end
section
open Go Go.RowKit

def GrowW (w w' : World) : Prop := ∃ q os, w' = Go.Sort.grow (w.drewN q) os
theorem GrowW.of {w w' : World} (h : Below w.heap.size w w') (hd : w.drawn ≤ w'.drawn) : GrowW w w' := by
  refine ⟨w'.drawn - w.drawn, w'.heap.extract w.heap.size w'.heap.size, ?_⟩
  obtain ⟨hp, tp, dr, os, ou⟩ := w'
  have h1 := h.os
  have h2 := h.tape
  have h3 := h.output
  have h4 := h.size
  have h5 := h.block
  simp only at h1 h2 h3 h4 h5 hd
  subst h1 h2 h3
  unfold Go.Sort.grow World.drewN
  simp only [World.mk.injEq, true_and]
  refine ⟨?_, (Nat.add_sub_of_le hd).symm, trivial⟩
  apply Array.ext_getElem?
  intro i
  rw [Array.getElem?_append]
  split
  · rename_i hi
    exact h5 i hi
  · rename_i hi
    rw [Array.getElem?_extract]
    split
    · rename_i h6
      congr 1
      omega
    · rename_i h6
      rw [Array.getElem?_eq_none (by omega)]
theorem GrowW.drawn {w w' : World} (h : GrowW w w') : w.drawn ≤ w'.drawn := by
  obtain ⟨q, os, rfl⟩ := h
  unfold Go.Sort.grow World.drewN
  simp
end
end Go.Proofs.YtckkjjiaecnciaaGreat
