/-
  An append to a row of one's own, known in the world as it stands (a box may have been written since it was last seen).
  An append of a whole slice to a row of one's own, known in the world as it stands: at the operation, and in a list.
-/
import Derived.Test.YtckkjjiaecnciaaGreatBaseC
namespace Go.Proofs.YtckkjjiaecnciaaGreat
section
open Go Go.RowKit

theorem own_appendW {α : Type} {E : Elt α} {S Sy : Nat → Prop} {base : Nat} {e : TypeId} {w w' : World} {v v' : Value} {xs ys : List α} {vs news : List Value}
    (hv1 : w.ownsRow base e E.sz v xs.length vs) (hv2 : ∀ k x, xs[k]? = some x → ∃ cs, E.R (fun b => S b ∧ v.ownBlock ≠ some b) w x cs ∧ ∀ j, j < E.sz → vs[k * E.sz + j]? = cs[j]?)
    (hS : ∀ b, Sy b → b < w.heap.size → S b ∧ v.ownBlock ≠ some b)
    (hys : ∀ k y, ys[k]? = some y → ∃ cs, E.R Sy w y cs ∧ ∀ j, j < E.sz → news[k * E.sz + j]? = cs[j]?)
    (hown' : w'.ownsRow base e E.sz v' (xs.length + ys.length) (vs ++ news)) (hgrow : w.grownBy w' v.ownBlock) (hat : v'.ownBlock = v.ownBlock ∨ v'.ownBlock = some w.heap.size) :
    Own E S base e w' v' (xs ++ ys) := by
  refine ⟨vs ++ news, by simpa using hown', fun k x hx => ?_⟩
  have hne : ∀ b, b < w.heap.size → v.ownBlock ≠ some b → v'.ownBlock ≠ some b := by
    intro b hb h1 h2
    rcases hat with h | h
    · exact h1 (h ▸ h2)
    · rw [h] at h2; simp at h2; omega
  have hkeep : ∀ b, v.ownBlock ≠ some b → b < w.heap.size → w'.heap[b]? = w.heap[b]? := fun b hb hlt' => hgrow.block b hlt' (fun e => hb e.symm)
  rcases Nat.lt_or_ge k xs.length with hk | hk
  · rw [List.getElem?_append_left hk] at hx
    obtain ⟨cs, h1, h2⟩ := hv2 k x hx
    refine ⟨cs, E.mono h1 (fun b hb hlt' => ⟨hb.1, hne b hlt' hb.2⟩) (fun b hb hlt' => hkeep b hb.2 hlt'), fun j hj => ?_⟩
    rw [List.getElem?_append_left (by rw [hv1.1]; exact chunk_lt hk hj), h2 j hj]
  · rw [List.getElem?_append_right hk] at hx
    obtain ⟨cs, h1, h2⟩ := hys _ x hx
    refine ⟨cs, E.mono h1 (fun b hb hlt' => ⟨(hS b hb hlt').1, hne b hlt' (hS b hb hlt').2⟩) (fun b hb hlt' => hkeep b (hS b hb hlt').2 hlt'), fun j hj => ?_⟩
    have hlen : vs.length = xs.length * E.sz := hv1.1
    have : xs.length * E.sz ≤ k * E.sz := Nat.mul_le_mul_right _ hk
    rw [List.getElem?_append_right (by omega), hlen, ← h2 j hj]
    congr 1
    rw [Nat.sub_mul]
    omega

/-- What such an append leaves: all blocks but the row's own. -/
structure KeptW (base : Nat) (w w' : World) (v v' : Value) : Prop where
  below : Below base w w'
  keep : ∀ b, b < w.heap.size → v.ownBlock ≠ some b → w'.heap[b]? = w.heap[b]?
  blk : v'.ownBlock = v.ownBlock ∨ v'.ownBlock = some w.heap.size

section
variable {P : Program} {ops : Array Oper} {rest : List Oper} {o : Oper} {a : Act} {Q : Exit → Act → World → Prop}
theorem wpList_app1W {α : Type} {E : Elt α} {S Sy : Nat → Prop} {w : World} (hgd : o.guard = none) (s x : Operand) (t : TypeId)
    (ho : o.op = .call { callee := .builtin .append, args := #[s, x], argTypes := #[t, t] })
    {base : Nat} {e : TypeId} {z : Value} {bytes : Nat} (ht : P.underlying t = some (.slice e)) (hi : (P.info? e).map (fun i => (i.zero, i.size, i.bytes)) = some (some z, E.sz, bytes))
    (hzs : z.cells.size = E.sz) {v : Value} {xs : List α} (hs : a.eval s = v) (hown : Own E S base e w v xs)
    (ad : Addr) (c : Nat) (hx : a.eval x = .slice (some ad) 1 c) {y : α} {cs : List Value} (hy : E.R Sy w y cs) (hS : ∀ b, Sy b → b < w.heap.size → S b ∧ v.ownBlock ≠ some b)
    (hcs : ∀ j, j < E.sz → w.cell? (ad.add j) = cs[j]?)
    (hbytes : (xs.length + 1) * bytes ≤ 140737488355328) (h63 : xs.length + 1 ≤ maxLen) (hbase : base ≤ w.heap.size)
    (h : ∀ ao cap w', Own E S base e w' (.slice ao (xs.length + 1) cap) (xs ++ [y]) → KeptW base w w' v (.slice ao (xs.length + 1) cap) → wpList P ops Q rest (a.put o.dst (.slice ao (xs.length + 1) cap)) w') : wpList P ops Q (o :: rest) a w := by
  obtain ⟨i, hi1, hz0, hz1, hz2⟩ := info_parts hi
  obtain ⟨vs, hv1, hv2⟩ := hown
  have hlt := hv1.lt
  have hlen := E.len hy
  refine wpList_append_own_at w hgd s x t ho base e i z E.sz bytes ht hi1 hz0 hz1 hz2 hzs E.pos v xs.length vs hs (ownsRow_at hv1 fun _ _ => rfl) ad 1 c cs hx (by simpa using hlen) ?_ (E.one hy) h63 hbytes hbase ?_
  · intro j u hj
    have hj' : j < E.sz := by have := (List.getElem?_eq_some_iff.1 hj).1; omega
    rw [hcs j hj', hj]
  · intro v' w' hown' hgrow _ hat
    obtain ⟨ao, cap, rfl, -, -⟩ := own_shape hown'
    refine h ao cap w' (own_appendW hv1 hv2 hS ?_ (by simpa using hown') hgrow hat) ⟨⟨hgrow.os, hgrow.tape, hgrow.output, hgrow.size, fun k hk => hgrow.block k (by omega) (fun e => by have := hlt k e.symm; omega)⟩, fun b h1 h2 => hgrow.block b h1 (fun e => h2 e.symm), hat⟩
    intro k y' hk
    obtain rfl : k = 0 := by have := (List.getElem?_eq_some_iff.1 hk).1; simp at this; omega
    simp at hk; subst hk
    exact ⟨cs, hy, by simp⟩
theorem wpList_app_seqW {α : Type} {E : Elt α} {S Sy : Nat → Prop} {w : World} (hgd : o.guard = none) (s x : Operand) (t : TypeId)
    (ho : o.op = .call { callee := .builtin .append, args := #[s, x], argTypes := #[t, t] })
    {base : Nat} {e : TypeId} (ht : P.underlying t = some (.slice e)) (hi : (P.info? e).map (fun i => (i.zero, i.size, i.bytes)) = some (some (.slice none 0 0), 1, 24))
    {v : Value} {xs : List (List α)} (hs : a.eval s = v) (hown : Own (seqE E) S base e w v xs) {B c : Nat} (hx : a.eval x = .slice (some ⟨B, 0, none⟩) 1 c)
    {y : List α} {vy : Value} (hy : Seq E Sy w vy y) (hS : ∀ b, Sy b → b < w.heap.size → S b ∧ v.ownBlock ≠ some b) (hcs : w.cell? ⟨B, 0, none⟩ = some vy) (hbytes : xs.length ≤ 1000000000000) (hbase : base ≤ w.heap.size)
    (h : ∀ ao cap w', Own (seqE E) S base e w' (.slice ao (xs.length + 1) cap) (xs ++ [y]) → KeptW base w w' v (.slice ao (xs.length + 1) cap) → wpList P ops Q rest (a.put o.dst (.slice ao (xs.length + 1) cap)) w') : wpList P ops Q (o :: rest) a w :=
  wpList_app1W (E := seqE E) (Sy := Sy) (y := y) (cs := [vy]) hgd s x t ho ht hi rfl hs hown _ _ hx ⟨vy, rfl, hy⟩ hS
    (by intro j hj; obtain rfl : j = 0 := (by have : j < 1 := hj; omega); exact hcs) (by omega) (by simp only [maxLen]; omega) hbase h
end
end
section
open Go Go.RowKit

theorem run_appG {P : Program} {α : Type} {E : Elt α} {S Sy : Nat → Prop} {w : World} {base : Nat} {e : TypeId} {z : Value} {bytes : Nat} (t ty : TypeId) (ht : P.underlying t = some (.slice e))
    (hi : (P.info? e).map (fun i => (i.zero, i.size, i.bytes)) = some (some z, E.sz, bytes)) (hzs : z.cells.size = E.sz) {v : Value} {xs : List α} (hown : Own E S base e w v xs)
    {ys : List α} {vy : Value} (hy : Seq E Sy w vy ys) (hS : ∀ b, Sy b → b < w.heap.size → S b ∧ v.ownBlock ≠ some b) (hby : bytes ≤ 100) (hlen : xs.length + ys.length ≤ 1000000000000) (hbase : base ≤ w.heap.size) :
    ∃ ao cap w', (Builtin.append_ #[t, t] ty #[v, vy]).run P w = .ok (.slice ao (xs.length + ys.length) cap) w' ∧ Own E S base e w' (.slice ao (xs.length + ys.length) cap) (xs ++ ys) ∧ KeptW base w w' v (.slice ao (xs.length + ys.length) cap) := by
  obtain ⟨i, hi1, hz0, hz1, hz2⟩ := info_parts hi
  obtain ⟨vs, hv1, hv2⟩ := hown
  have hlt := hv1.lt
  obtain ⟨ay, cy, rfl, hy1, hy2, hy3, hy4, hy5⟩ := hy
  cases ay with
  | none =>
    obtain rfl := hy4 rfl
    have : ys = [] := List.eq_nil_of_length_eq_zero (by omega)
    subst this
    have hrun := run_append_owned_none (P := P) (w := w) base t ty e i E.sz ht hi1 v xs.length vs hv1
    obtain ⟨ao, cap, rfl, -, -⟩ := own_shape hv1
    refine ⟨ao, cap, w, hrun, ?_, Below.refl _ _, fun _ _ _ => rfl, .inl rfl⟩
    rw [List.append_nil]
    exact ⟨vs, hv1, hv2⟩
  | some ad =>
    let news : List Value := (List.range (ys.length * E.sz)).map fun j => (w.cell? (ad.add j)).getD undef
    have hnl : news.length = ys.length * E.sz := by simp [news]
    have hcell : ∀ k y, ys[k]? = some y → ∃ cs, E.R Sy w y cs ∧ ∀ j, j < E.sz → w.cell? (ad.add (k * E.sz + j)) = cs[j]? := by
      intro k y hk
      obtain ⟨b, off, cs, h1, h2, h3, h4, h5⟩ := hy5 k y hk
      simp only [Option.some.injEq] at h1
      subst h1
      refine ⟨cs, h4, fun j hj => ?_⟩
      rw [Addr.add_lit]
      exact h5 j hj
    have hnews : ∀ k y, ys[k]? = some y → ∃ cs, E.R Sy w y cs ∧ ∀ j, j < E.sz → news[k * E.sz + j]? = cs[j]? := by
      intro k y hk
      obtain ⟨cs, h1, h2⟩ := hcell k y hk
      refine ⟨cs, h1, fun j hj => ?_⟩
      have hk' := (List.getElem?_eq_some_iff.1 hk).1
      have hlt' := chunk_lt (sz := E.sz) hk' hj
      have hl := E.len h1
      have hj' : j < cs.length := by omega
      simp only [news, List.getElem?_map, List.getElem?_range hlt', Option.map_some, h2 j hj, List.getElem?_eq_getElem hj', Option.getD_some]
    have hb2 : (xs.length + ys.length) * bytes ≤ (xs.length + ys.length) * 100 := Nat.mul_le_mul_left _ hby
    obtain ⟨v', w', hr, hown', hgrow, _, hat⟩ := run_append_own_at (P := P) w base t ty e i z E.sz bytes ht hi1 hz0 hz1 hz2 hzs E.pos v xs.length vs hv1 ad ys.length cy news hnl (by
        intro j u hj
        have hj' : j < ys.length * E.sz := by have := (List.getElem?_eq_some_iff.1 hj).1; omega
        have hdm : j / E.sz < ys.length := Nat.div_lt_of_lt_mul (by rw [Nat.mul_comm]; exact hj')
        have hmod := Nat.mod_lt j E.pos
        obtain ⟨cs, h1, h2⟩ := hcell (j / E.sz) _ (List.getElem?_eq_getElem hdm)
        have hjj : j / E.sz * E.sz + j % E.sz = j := by rw [Nat.mul_comm]; exact Nat.div_add_mod j E.sz
        have h3 := h2 (j % E.sz) hmod
        rw [hjj] at h3
        have hl := E.len h1
        have hj'' : j % E.sz < cs.length := by omega
        rw [List.getElem?_eq_getElem hj''] at h3
        simp only [news, List.getElem?_map, List.getElem?_range hj', Option.map_some, h3, Option.getD_some, Option.some.injEq] at hj
        rw [h3, hj]) (by
        intro u hu
        obtain ⟨j, hj0, hj⟩ := List.mem_iff_getElem.1 hu
        have hj' : j < ys.length * E.sz := by omega
        have hdm : j / E.sz < ys.length := Nat.div_lt_of_lt_mul (by rw [Nat.mul_comm]; exact hj')
        have hmod := Nat.mod_lt j E.pos
        obtain ⟨cs, h1, h2⟩ := hnews (j / E.sz) _ (List.getElem?_eq_getElem hdm)
        have hjj : j / E.sz * E.sz + j % E.sz = j := by rw [Nat.mul_comm]; exact Nat.div_add_mod j E.sz
        have h3 := h2 (j % E.sz) hmod
        rw [hjj, List.getElem?_eq_getElem hj0, hj] at h3
        exact E.one h1 u (List.mem_of_getElem? h3.symm)) (by simp only [maxLen]; omega) (by omega) hbase
    obtain ⟨ao, cap, rfl, -, -⟩ := own_shape hown'
    exact ⟨ao, cap, w', hr, own_appendW hv1 hv2 hS hnews hown' hgrow hat, ⟨hgrow.os, hgrow.tape, hgrow.output, hgrow.size, fun k hk => hgrow.block k (by omega) (fun e => by have := hlt k e.symm; omega)⟩, fun b h1 h2 => hgrow.block b h1 (fun e => h2 e.symm), hat⟩

section
variable {P : Program} {ops : Array Oper} {rest : List Oper} {o : Oper} {a : Act} {Q : Exit → Act → World → Prop}
theorem wp_appG {α : Type} {E : Elt α} {S Sy : Nat → Prop} {w : World} {K : Act → World → Prop} (s x : Operand) (t : TypeId)
    (ho : o.op = .call { callee := .builtin .append, args := #[s, x], argTypes := #[t, t] })
    {base : Nat} {e : TypeId} {z : Value} {bytes : Nat} (ht : P.underlying t = some (.slice e)) (hi : (P.info? e).map (fun i => (i.zero, i.size, i.bytes)) = some (some z, E.sz, bytes))
    (hzs : z.cells.size = E.sz) {v : Value} {xs : List α} (hs : a.eval s = v) (hown : Own E S base e w v xs)
    {ys : List α} {vy : Value} (hx : a.eval x = vy) (hy : Seq E Sy w vy ys) (hS : ∀ b, Sy b → b < w.heap.size → S b ∧ v.ownBlock ≠ some b)
    (hby : bytes ≤ 100) (hlen : xs.length + ys.length ≤ 1000000000000) (hbase : base ≤ w.heap.size)
    (h : ∀ ao cap w', Own E S base e w' (.slice ao (xs.length + ys.length) cap) (xs ++ ys) → KeptW base w w' v (.slice ao (xs.length + ys.length) cap) → K (a.put o.dst (.slice ao (xs.length + ys.length) cap)) w') : o.wp P a w K Q := by
  obtain ⟨ao, cap, w', hr, h1, h2⟩ := run_appG (P := P) t o.type ht hi hzs hown hy hS hby hlen hbase
  unfold Oper.wp execOp
  simp only [ho, resolve, invoke, builtin, Sem.run_bind, Sem.run_pure, Result.andThen_ok, List.map_toArray, List.map_cons, List.map_nil, hs, hx, hr]
  exact h ao cap w' h1 h2
theorem wpList_appG {α : Type} {E : Elt α} {S Sy : Nat → Prop} {w : World} (hgd : o.guard = none) (s x : Operand) (t : TypeId)
    (ho : o.op = .call { callee := .builtin .append, args := #[s, x], argTypes := #[t, t] })
    {base : Nat} {e : TypeId} {z : Value} {bytes : Nat} (ht : P.underlying t = some (.slice e)) (hi : (P.info? e).map (fun i => (i.zero, i.size, i.bytes)) = some (some z, E.sz, bytes))
    (hzs : z.cells.size = E.sz) {v : Value} {xs : List α} (hs : a.eval s = v) (hown : Own E S base e w v xs)
    {ys : List α} {vy : Value} (hx : a.eval x = vy) (hy : Seq E Sy w vy ys) (hS : ∀ b, Sy b → b < w.heap.size → S b ∧ v.ownBlock ≠ some b)
    (hby : bytes ≤ 100) (hlen : xs.length + ys.length ≤ 1000000000000) (hbase : base ≤ w.heap.size)
    (h : ∀ ao cap w', Own E S base e w' (.slice ao (xs.length + ys.length) cap) (xs ++ ys) → KeptW base w w' v (.slice ao (xs.length + ys.length) cap) → wpList P ops Q rest (a.put o.dst (.slice ao (xs.length + ys.length) cap)) w') : wpList P ops Q (o :: rest) a w :=
  wpList_plain hgd fun _ hK => wp_appG s x t ho ht hi hzs hs hown hx hy hS hby hlen hbase fun ao cap w' h1 h2 => hK _ _ (h ao cap w' h1 h2)
/-- At an operation of a region that is walked step by step. -/
theorem step_appG {α : Type} {E : Elt α} {S Sy : Nat → Prop} {w : World} {K : Act → World → Prop} {X : Prop} (hgd : o.guard = none) (s x : Operand) (t : TypeId)
    (ho : o.op = .call { callee := .builtin .append, args := #[s, x], argTypes := #[t, t] })
    {base : Nat} {e : TypeId} {z : Value} {bytes : Nat} (ht : P.underlying t = some (.slice e)) (hi : (P.info? e).map (fun i => (i.zero, i.size, i.bytes)) = some (some z, E.sz, bytes))
    (hzs : z.cells.size = E.sz) {v : Value} {xs : List α} (hs : a.eval s = v) (hown : Own E S base e w v xs)
    {ys : List α} {vy : Value} (hx : a.eval x = vy) (hy : Seq E Sy w vy ys) (hS : ∀ b, Sy b → b < w.heap.size → S b ∧ v.ownBlock ≠ some b)
    (hby : bytes ≤ 100) (hlen : xs.length + ys.length ≤ 1000000000000) (hbase : base ≤ w.heap.size)
    (h : ∀ ao cap w', Own E S base e w' (.slice ao (xs.length + ys.length) cap) (xs ++ ys) → KeptW base w w' v (.slice ao (xs.length + ys.length) cap) → K (a.put o.dst (.slice ao (xs.length + ys.length) cap)) w') :
    if Region.wanted o (yielded ops a.tmps) = true then o.wp P a w K Q else X := by
  rw [if_pos (by simp [Region.wanted, hgd])]
  exact wp_appG s x t ho ht hi hzs hs hown hx hy hS hby hlen hbase h
end

/-! ### Rows that stand beside one that grows -/
theorem blk_after {w w' : World} {base : Nat} {o o' : Value} (hk : KeptW base w w' o o') {b : Nat} (hl : b < w.heap.size) (h : o.ownBlock ≠ some b) : o'.ownBlock ≠ some b := by
  rcases hk.blk with h1 | h1
  · rw [h1]; exact h
  · rw [h1]; intro e; simp only [Option.some.injEq] at e; omega
theorem seq_beside {α : Type} {E : Elt α} {base : Nat} {w w' : World} {o o' v : Value} {xs : List α} (h : Seq E (fun b => o.ownBlock ≠ some b) w v xs) (hk : KeptW base w w' o o') : Seq E (fun b => o'.ownBlock ≠ some b) w' v xs :=
  h.mono (fun _ hb hl => blk_after hk hl hb) fun b hb hl => hk.keep b hl hb
theorem own_beside {α : Type} {E : Elt α} {X : Nat → Prop} {base base' : Nat} {e : TypeId} {w w' : World} {o o' u : Value} {l : List α} (h : Own E (fun b => X b ∧ o.ownBlock ≠ some b) base e w u l) (hk : KeptW base' w w' o o') (hne : ∀ b, u.ownBlock = some b → o.ownBlock ≠ some b) :
    Own E (fun b => X b ∧ o'.ownBlock ≠ some b) base e w' u l ∧ ∀ b, u.ownBlock = some b → o'.ownBlock ≠ some b := by
  have h1 : ∀ b, u.ownBlock = some b → o'.ownBlock ≠ some b := fun b hb => blk_after hk (h.blk hb).2 (hne b hb)
  have h2 : Own E (fun b => (X b ∧ o.ownBlock ≠ some b) ∧ b < w.heap.size) base e w u l := by
    obtain ⟨vs, h3, h4⟩ := h
    refine ⟨vs, h3, fun k x hx => ?_⟩
    obtain ⟨cs, h5, h6⟩ := h4 k x hx
    exact ⟨cs, E.mono h5 (fun b hb hl => ⟨⟨hb.1, hl⟩, hb.2⟩) (fun _ _ _ => rfl), h6⟩
  have h3 := h2.moveO (w' := w') (fun b hl hb => hk.keep b hl (hne b hb)) fun b hl hs => hk.keep b hl hs.1.2
  exact ⟨h3.reS fun b hb _ _ => ⟨hb.1.1, blk_after hk hb.2 hb.1.2⟩, h1⟩
theorem KeptW.of {base : Nat} {wm w w' : World} {v v' : Value} (h : Kept base wm w w' v v') : KeptW base w w' v v' := ⟨h.below, h.keep, h.blk⟩
/-- Numbers stand nowhere else. -/
theorem Own.intS {S T : Nat → Prop} {base : Nat} {e : TypeId} {w : World} {v : Value} {xs : List Int} (h : Own intE S base e w v xs) : Own intE T base e w v xs := by
  obtain ⟨vs, h1, h2⟩ := h
  refine ⟨vs, h1, fun k x hx => ?_⟩
  obtain ⟨cs, h3, h4⟩ := h2 k x hx
  exact ⟨cs, h3, h4⟩
end
end Go.Proofs.YtckkjjiaecnciaaGreat
