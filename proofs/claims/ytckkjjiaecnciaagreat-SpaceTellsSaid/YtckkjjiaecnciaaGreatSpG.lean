/-
  Rows of one's own, known whole: elements of any kind laid flat; clear at any kind; a row sorted.
  A row of one's own, sorted by the library's slices.SortFunc: what its contract wants, and what it leaves.
-/
import Derived.Test.YtckkjjiaecnciaaGreatBaseC
import Derived.Laws.CopyOwn
import Derived.Lib.SliceRun
import Derived.Shelf.SlSortCmp.NoneTotal
namespace Go.Proofs.YtckkjjiaecnciaaGreat
section
open Go Go.RowKit

/-! ### Cells put into a row -/
theorem splice_consF {α : Type} (L : List α) (o : Nat) (v : α) (r : List α) (h : o + (r.length + 1) ≤ L.length) : splice (L.set o v) (o + 1) r = splice L o (v :: r) := by
  unfold splice
  have h1 : (L.set o v).take (o + 1) = L.take o ++ [v] := by
    rw [List.take_succ_eq_append_getElem (by simp; omega), List.take_set_of_le (Nat.le_refl _)]; simp
  have h2 : (L.set o v).drop (o + 1 + r.length) = L.drop (o + (r.length + 1)) := by
    rw [List.drop_set_of_lt (by omega)]; congr 1; omega
  rw [h1, h2]; simp
theorem splice_takeF {α : Type} (L : List α) (o : Nat) (cs : List α) (h : o ≤ L.length) : (splice L o cs).take o = L.take o := by
  unfold splice
  exact List.take_left' (by rw [List.length_take]; omega)
theorem splice_len {α : Type} (L : List α) (o : Nat) (cs : List α) (h : o + cs.length ≤ L.length) : (splice L o cs).length = L.length := by
  unfold splice
  simp; omega
theorem Row.setCellsF {T : TypeId} {g : Nat} : ∀ {vs : List Value} {o : Nat} {w : World} {cur : List Value}, Row T w g cur → o + vs.length ≤ cur.length → Row T (w.setCells g o vs) g (splice cur o vs)
  | [], o, w, cur, h, _ => by simpa [World.setCells, splice] using h
  | v :: r, o, w, cur, h, hl => by
    have h1 := Row.setCellsF (vs := r) (o := o + 1) (h.set o v) (by simp at hl ⊢; omega)
    rw [splice_consF cur o v r (by simpa using hl)] at h1
    exact h1
theorem grown_setCellF (w : World) (g o : Nat) (v : Value) : w.grownBy (w.setCell ⟨g, o, none⟩ v) (some g) :=
  ⟨rfl, rfl, rfl, by simp, fun k _ hk => Below.heap_setCell _ _ _ _ (fun e => hk (by rw [e]))⟩
theorem grown_transF {w w1 w2 : World} {g : Option Nat} (h : w.grownBy w1 g) (h2 : w1.grownBy w2 g) : w.grownBy w2 g :=
  ⟨h2.os.trans h.os, h2.tape.trans h.tape, h2.output.trans h.output, Nat.le_trans h.size h2.size, fun k hk hne => (h2.block k (Nat.lt_of_lt_of_le hk h.size) hne).trans (h.block k hk hne)⟩
theorem grown_setCellsF (g : Nat) : ∀ (vs : List Value) (o : Nat) (w : World), w.grownBy (w.setCells g o vs) (some g)
  | [], _, _ => World.grownBy.refl _ _
  | v :: r, o, w => grown_transF (grown_setCellF w g o v) (grown_setCellsF g r (o + 1) _)
theorem grown_belowF {B g : Nat} {w w' : World} (h : w.grownBy w' (some g)) (hg : B ≤ g) (hB : B ≤ w.heap.size) : Below B w w' :=
  ⟨h.os, h.tape, h.output, h.size, fun k hk => h.block k (by omega) (fun e => by simp at e; omega)⟩

/-- 'clear(s)', the elements of whatever cells. -/
theorem run_clear_sliceK {P : Program} (w : World) (t e ty : TypeId) (z : Value) (ht : P.underlying t = some (.slice e)) (hv : ∀ w, (zeroValue e).run P w = .ok z w) (h1 : ∀ u ∈ z.cells.toList, u.oneCell' = true) (b o n c : Nat) (hn : 0 < n)
    (hc : ∀ j, j < n * z.cells.size → (w.cell? ⟨b, o + j, none⟩).isSome = true) (hf : ∀ j, j < n * z.cells.size → w.frozen? ⟨b, o + j, none⟩ = false) :
    (Builtin.clear_ #[t] ty #[.slice (some ⟨b, o, none⟩) n c]).run P w = .ok (.tuple #[]) (w.setCells b o (Builtin.zeroCells z.cells n).toList) := by
  have hl : (Builtin.zeroCells z.cells n).toList.length = n * z.cells.size := by simp [Builtin.zeroCells]
  have hst := run_storeCells_cells (P := P) b o (Builtin.zeroCells z.cells n).toList 0 w (by intro j hj; rw [hl] at hj; simpa using hc j hj) (by intro j hj; rw [hl] at hj; exact hf j hj) (by
    intro v hv'
    obtain ⟨i, hi, rfl⟩ := List.mem_iff_getElem.1 hv'
    have hi' : i < n * z.cells.size := by rw [hl] at hi; exact hi
    have hz : 0 < z.cells.size := by rcases Nat.eq_zero_or_pos z.cells.size with h | h; · rw [h] at hi'; simp at hi'
                                     · exact h
    have hm : i % z.cells.size < z.cells.size := Nat.mod_lt _ hz
    refine h1 _ ?_
    simp [Builtin.zeroCells, getElem!_pos, hm])
  simp only [Nat.add_zero] at hst
  obtain ⟨m, rfl⟩ : ∃ m, n = m + 1 := ⟨n - 1, by omega⟩
  simp [Builtin.clear_, run_underlying ht, hv, hst]

/-! ### Elements laid flat -/
def FlatE {α : Type} (E : Elt α) (S : Nat → Prop) (w : World) (vs : List Value) (l : List α) : Prop :=
  vs.length = l.length * E.sz ∧ ∀ k x, l[k]? = some x → ∃ cs, E.R S w x cs ∧ ∀ j, j < E.sz → vs[k * E.sz + j]? = cs[j]?
section
variable {α : Type} {E : Elt α} {S T : Nat → Prop} {w w' : World} {vs us : List Value} {l m : List α}
theorem FlatE.mono (h : FlatE E S w vs l) (hT : ∀ b, S b → b < w.heap.size → T b) (hw : ∀ b, S b → b < w.heap.size → w'.heap[b]? = w.heap[b]?) : FlatE E T w' vs l :=
  ⟨h.1, fun k r hk => by obtain ⟨c, h1, h2⟩ := h.2 k r hk; exact ⟨c, E.mono h1 hT hw, h2⟩⟩
theorem FlatE.nil : FlatE E S w [] ([] : List α) := ⟨by simp, fun k x h => by simp at h⟩
theorem FlatE.single {x : α} {cs : List Value} (h : E.R S w x cs) : FlatE E S w cs [x] := by
  refine ⟨by rw [E.len h]; simp, fun k y hk => ?_⟩
  obtain rfl : k = 0 := by have := (List.getElem?_eq_some_iff.1 hk).1; simp at this; omega
  simp at hk; subst hk
  exact ⟨cs, h, fun j _ => by simp⟩
theorem FlatE.append (h : FlatE E S w vs l) (h' : FlatE E S w us m) : FlatE E S w (vs ++ us) (l ++ m) := by
  refine ⟨by rw [List.length_append, List.length_append, h.1, h'.1, Nat.add_mul], fun k r hk => ?_⟩
  rcases Nat.lt_or_ge k l.length with hlt | hge
  · rw [List.getElem?_append_left hlt] at hk
    obtain ⟨c, h1, h2⟩ := h.2 k r hk
    exact ⟨c, h1, fun j hj => by rw [List.getElem?_append_left (by rw [h.1]; exact chunk_lt hlt hj)]; exact h2 j hj⟩
  · rw [List.getElem?_append_right hge] at hk
    obtain ⟨c, h1, h2⟩ := h'.2 _ r hk
    have := Nat.mul_le_mul_right E.sz hge
    refine ⟨c, h1, fun j hj => ?_⟩
    rw [List.getElem?_append_right (by rw [h.1]; omega), ← h2 j hj, h.1]
    congr 1
    rw [Nat.sub_mul]; omega
theorem FlatE.take (h : FlatE E S w vs l) (k : Nat) (hk : k ≤ l.length) : FlatE E S w (vs.take (k * E.sz)) (l.take k) := by
  have e := Nat.mul_le_mul_right E.sz hk
  refine ⟨by rw [List.length_take, List.length_take, h.1, Nat.min_eq_left e, Nat.min_eq_left hk], fun i r hi => ?_⟩
  have hi' : i < k := by have := (List.getElem?_eq_some_iff.1 hi).1; rw [List.length_take] at this; omega
  rw [List.getElem?_take_of_lt hi'] at hi
  obtain ⟨c, h1, h2⟩ := h.2 i r hi
  exact ⟨c, h1, fun j hj => by rw [List.getElem?_take_of_lt (chunk_lt hi' hj)]; exact h2 j hj⟩
theorem FlatE.drop (h : FlatE E S w vs l) (k : Nat) : FlatE E S w (vs.drop (k * E.sz)) (l.drop k) := by
  refine ⟨by rw [List.length_drop, List.length_drop, h.1, Nat.sub_mul], fun i r hi => ?_⟩
  rw [List.getElem?_drop] at hi
  obtain ⟨c, h1, h2⟩ := h.2 _ r hi
  exact ⟨c, h1, fun j hj => by rw [List.getElem?_drop, ← h2 j hj]; congr 1; rw [Nat.add_mul]; omega⟩
/-- A row of one's own, known whole. -/
theorem Own.flatE {base : Nat} {e : TypeId} {v : Value} (h : Own E S base e w v l) (hl : l ≠ []) :
    ∃ g cap cur, v = .slice (some ⟨g, 0, none⟩) l.length cap ∧ base ≤ g ∧ l.length ≤ cap ∧ cap ≤ maxLen ∧ cur.length = cap * E.sz ∧ Row e w g cur ∧ FlatE E (fun b => S b ∧ b ≠ g) w (cur.take (l.length * E.sz)) l := by
  obtain ⟨vs, ⟨h1, h2⟩, h3⟩ := h
  rcases h2 with ⟨-, h0⟩ | ⟨g, cap, cur, rfl, hb, hg, hc, hm, hs, ht⟩
  · exact absurd (List.eq_nil_of_length_eq_zero h0) hl
  · refine ⟨g, cap, cur.toList, rfl, hb, hc, hm, by simpa using hs, hg, ?_⟩
    rw [ht]
    refine ⟨h1, fun k x hk => ?_⟩
    obtain ⟨cs, h4, h5⟩ := h3 k x hk
    exact ⟨cs, E.mono h4 (fun b hb _ => ⟨hb.1, fun e => hb.2 (by simp [Value.ownBlock, e])⟩) fun _ _ _ => rfl, h5⟩
theorem FlatE.own {base g cap n : Nat} {e : TypeId} {cur : List Value} (hR : Row e w g cur) (hn : n = l.length) (h : FlatE E (fun b => S b ∧ b ≠ g) w (cur.take (n * E.sz)) l) (hb : base ≤ g) (hcl : cur.length = cap * E.sz) (hcap : n ≤ cap) (hm : cap ≤ maxLen) :
    Own E S base e w (.slice (some ⟨g, 0, none⟩) n cap) l := by
  subst hn
  refine ⟨cur.take (l.length * E.sz), ⟨h.1, .inr ⟨g, cap, cur.toArray, rfl, hb, hR, hcap, hm, by simpa using hcl, by simp⟩⟩, fun k t hk => ?_⟩
  obtain ⟨cs, h1, h2⟩ := h.2 k t hk
  exact ⟨cs, E.mono h1 (fun b hb _ => ⟨hb.1, fun e => hb.2 (by simpa [Value.ownBlock] using e.symm)⟩) fun _ _ _ => rfl, h2⟩
end
end
section
open Go Go.RowKit Go.Sort

theorem pick_list {α : Type} {P : Nat → α → Prop} : ∀ (n : Nat), (∀ k, k < n → ∃ y, P k y) → ∃ ds : List α, ds.length = n ∧ ∀ k y, ds[k]? = some y → P k y
  | 0, _ => ⟨[], rfl, fun k y h => by simp at h⟩
  | n + 1, h => by
    obtain ⟨ds, h1, h2⟩ := pick_list n fun k hk => h k (by omega)
    obtain ⟨y, hy⟩ := h n (by omega)
    refine ⟨ds ++ [y], by simp [h1], fun k z hz => ?_⟩
    rcases Nat.lt_or_ge k n with hlt | hge
    · rw [List.getElem?_append_left (by omega)] at hz; exact h2 k z hz
    · rw [List.getElem?_append_right (by omega)] at hz
      obtain rfl : k = n := by have := (List.getElem?_eq_some_iff.1 hz).1; simp at this; omega
      simp [h1] at hz; subst hz; exact hy
theorem perm_map_lift {γ δ : Type} {f : γ → δ} {ds' ds : List δ} (h : ds'.Perm ds) : ∀ z : List γ, z.map f = ds → ∃ z' : List γ, z'.Perm z ∧ z'.map f = ds' := by
  induction h with
  | nil => intro z hz; exact ⟨z, List.Perm.refl _, hz⟩
  | cons x _ ih =>
    intro z hz
    cases z with
    | nil => simp at hz
    | cons p z =>
      simp only [List.map_cons, List.cons.injEq] at hz
      obtain ⟨z', h1, h2⟩ := ih z hz.2
      exact ⟨p :: z', h1.cons p, by simp [h2, hz.1]⟩
  | swap x y l =>
    intro z hz
    match z, hz with
    | p :: q :: z, hz =>
      simp only [List.map_cons, List.cons.injEq] at hz
      exact ⟨q :: p :: z, List.Perm.swap p q z, by simp [hz]⟩
  | trans _ _ ih1 ih2 =>
    intro z hz
    obtain ⟨z1, h1, h2⟩ := ih2 z hz
    obtain ⟨z2, h3, h4⟩ := ih1 z1 h2
    exact ⟨z2, h3.trans h1, h4⟩

section
variable {α : Type} [Inhabited α] {enc : α → List Value} {sz : Nat}
theorem row_holds {e : TypeId} {w : World} {g : Nat} {cur : List Value} {d : Array α} (hR : Row e w g cur) (hsz : 0 < sz) (hk : ∀ x, (enc x).length = sz) (hl : d.size * sz ≤ cur.length) (hc : ∀ i j, i < d.size → j < sz → cur[i * sz + j]? = (enc d[i]!)[j]?) : HoldsK enc sz w g 0 d := by
  intro t ht
  rw [size_flatK] at ht
  have hi : t / sz < d.size := (Nat.div_lt_iff_lt_mul hsz).2 ht
  have hj : t % sz < sz := Nat.mod_lt _ hsz
  have he : t / sz * sz + t % sz = t := by rw [Nat.mul_comm]; exact Nat.div_add_mod t sz
  have h1 := hc _ _ hi hj
  rw [he, List.getElem?_eq_getElem (by omega : t < cur.length)] at h1
  have h2 : t % sz < (enc d[t / sz]!).length := by rw [hk]; exact hj
  rw [List.getElem?_eq_getElem h2] at h1
  simp only [Option.some.injEq] at h1
  rw [Nat.zero_add, get_flatK enc sz d t ht]
  refine ⟨?_, hR.frozen t⟩
  rw [hR.cell (j := t) (by omega), h1, id, getElem!_pos (enc d[t / sz]!) (t % sz) h2]

/-- Where the sort ends. -/
theorem row_sorted {e : TypeId} {w : World} {g n : Nat} {cur : List Value} {d : Array α} {os : Array Obj} (hR : Row e w g cur) (hl : d.size * sz ≤ cur.length) :
    ∃ cur', Row e (sortWorldK enc sz w g 0 n d os) g cur' ∧ cur'.length = cur.length ∧ cur'.take (d.size * sz) = (flatK enc sz d).toList ∧
      (∀ b, b < w.heap.size → b ≠ g → (sortWorldK enc sz w g 0 n d os).heap[b]? = w.heap[b]?) ∧ w.heap.size ≤ (sortWorldK enc sz w g 0 n d os).heap.size ∧
      (sortWorldK enc sz w g 0 n d os).os = w.os ∧ (sortWorldK enc sz w g 0 n d os).tape = w.tape ∧ (sortWorldK enc sz w g 0 n d os).output = w.output := by
  have hg := hR.lt
  have hs : (putRowK enc sz (Sort.ahead w n) g 0 d).heap.size = w.heap.size := by simp [putRowK, putRow, mapBlock, Sort.ahead]
  have hm : ∀ b, (putRowK enc sz (Sort.ahead w n) g 0 d).heap[b]? = if g = b then (w.heap[b]?).map (onCells (putCells id 0 (flatK enc sz d))) else w.heap[b]? := fun b => by
    simp only [putRowK, putRow, mapBlock, Sort.ahead, Array.getElem?_modify]
  refine ⟨(putCells id 0 (flatK enc sz d) cur.toArray).toList, ?_, by simp [putCells], ?_, fun b hb hne => ?_, ?_, rfl, rfl, rfl⟩
  · unfold Row
    unfold sortWorldK
    rw [heap_grow_old _ _ (by rw [hs]; exact hg), hm, if_pos rfl, show w.heap[g]? = _ from hR]
    rfl
  · apply List.ext_getElem
    · simp [putCells]; omega
    · intro i h1 h2
      rw [List.getElem_take]
      simp only [putCells, Array.getElem_toList, Array.getElem_mapIdx, Nat.zero_le, Nat.zero_add, true_and, Nat.sub_zero, id]
      have hi : i < (flatK enc sz d).size := by simpa using h2
      rw [if_pos hi, getElem!_pos (flatK enc sz d) i hi]
  · unfold sortWorldK
    rw [heap_grow_old _ _ (by rw [hs]; exact hb), hm, if_neg (fun e => hne e.symm)]
  · unfold sortWorldK
    rw [size_grow, hs]; omega

/-- A row of one's own: what the sort's contract wants of it, and what is left. -/
theorem own_sort {β : Type} {E : Elt β} (hk : ∀ x, (enc x).length = E.sz) {S : Nat → Prop} {base : Nat} {e : TypeId} {w : World} {v : Value} {l : List β} (hl : Own E S base e w v l) (hne : l ≠ []) (hbase : base ≤ w.heap.size)
    {K : α → β → Prop} (hin : ∀ x ∈ l, ∀ T cs, E.R T w x cs → ∃ y, enc y = cs ∧ K y x) :
    ∃ (g cap : Nat) (d : Array α), v = .slice (some ⟨g, 0, none⟩) d.size cap ∧ g < w.heap.size ∧ d.size = l.length ∧ HoldsK enc E.sz w g 0 d ∧
      ∀ d' n os, PermIn 0 d.size d d' → ∃ l' : List β, l'.Perm l ∧ (∀ (k : Nat) x, l'[k]? = some x → K d'[k]! x) ∧ Own E S base e (sortWorldK enc E.sz w g 0 n d' os) v l' ∧ Below base w (sortWorldK enc E.sz w g 0 n d' os) := by
  obtain ⟨g, cap, cur, rfl, hg, hc, hm, hcl, hR, hF⟩ := hl.flatE hne
  have hsz := E.pos
  have hlc : l.length * E.sz ≤ cur.length := by rw [hcl]; exact Nat.mul_le_mul_right _ hc
  obtain ⟨z, hz1, hz2⟩ := pick_list (α := α × β) (P := fun k p => l[k]? = some p.2 ∧ K p.1 p.2 ∧ E.R (fun b => S b ∧ b ≠ g) w p.2 (enc p.1) ∧ ∀ j, j < E.sz → cur[k * E.sz + j]? = (enc p.1)[j]?) l.length (fun k hk => by
    obtain ⟨cs, h1, h2⟩ := hF.2 k _ (List.getElem?_eq_getElem hk)
    obtain ⟨y, rfl, hy⟩ := hin _ (List.getElem_mem hk) _ _ h1
    exact ⟨(y, l[k]), List.getElem?_eq_getElem hk, hy, h1, fun j hj => by rw [← h2 j hj, List.getElem?_take_of_lt (chunk_lt hk hj)]⟩)
  have hzl : z.map Prod.snd = l := by
    apply List.ext_getElem?
    intro k
    rw [List.getElem?_map]
    cases h : z[k]? with
    | none => rw [List.getElem?_eq_none (by rw [← hz1]; exact List.getElem?_eq_none_iff.1 h)]; rfl
    | some p => rw [(hz2 k p h).1]; rfl
  have hds : (z.map Prod.fst).toArray.size = l.length := by simp [hz1]
  have hget : ∀ k (hk : k < z.length), (z.map Prod.fst).toArray[k]! = (z[k]).1 := fun k hk => by
    rw [getElem!_pos (z.map Prod.fst).toArray k (by simpa using hk)]; simp
  refine ⟨g, cap, (z.map Prod.fst).toArray, by rw [hds], hR.lt, hds, row_holds hR hsz hk (by rw [hds]; exact hlc) (fun i j hi hj => ?_), fun d' n os hp => ?_⟩
  · have hi' : i < z.length := by rw [hz1]; rw [hds] at hi; exact hi
    rw [(hz2 i _ (List.getElem?_eq_getElem hi')).2.2.2 j hj, hget i hi']
  · obtain ⟨hp1, -, hp3⟩ := hp
    rw [Array.extract_eq_self_of_le (by omega), Array.extract_eq_self_of_le (Nat.le_refl _)] at hp3
    obtain ⟨z', hz3, hz4⟩ := perm_map_lift (f := Prod.fst) hp3 z (by simp)
    have hd' : d' = (z'.map Prod.fst).toArray := by rw [hz4]
    have hl' : (z'.map Prod.snd).length = l.length := by rw [List.length_map, hz3.length_eq, hz1]
    have hget' : ∀ k (hk : k < z'.length), d'[k]! = (z'[k]).1 := fun k hk => by
      rw [hd', getElem!_pos (z'.map Prod.fst).toArray k (by simpa using hk)]; simp
    have hmem : ∀ p ∈ z', K p.1 p.2 ∧ E.R (fun b => S b ∧ b ≠ g) w p.2 (enc p.1) := fun p hp => by
      obtain ⟨k, hk, rfl⟩ := List.mem_iff_getElem.1 (hz3.mem_iff.1 hp)
      exact ⟨(hz2 k _ (List.getElem?_eq_getElem hk)).2.1, (hz2 k _ (List.getElem?_eq_getElem hk)).2.2.1⟩
    have hd's : d'.size = l.length := by rw [hp1, hds]
    obtain ⟨cur', q1, q2, q3, q4, q5, q6, q7, q8⟩ := row_sorted (enc := enc) (sz := E.sz) (n := n) (d := d') (os := os) hR (by rw [hd's]; exact hlc)
    refine ⟨z'.map Prod.snd, by rw [← hzl]; exact hz3.map _, fun k x hx => ?_, ?_, ⟨q6, q7, q8, q5, fun b hb => q4 b (by omega) (by omega)⟩⟩
    · rw [List.getElem?_map] at hx
      obtain ⟨p, hp, rfl⟩ := Option.map_eq_some_iff.1 hx
      obtain ⟨hk', rfl⟩ := List.getElem?_eq_some_iff.1 hp
      rw [hget' k hk']
      exact (hmem _ (List.getElem_mem hk')).1
    · refine FlatE.own q1 hl'.symm ?_ hg (by rw [q2]; exact hcl) hc hm
      rw [hd's] at q3
      rw [q3]
      refine ⟨by simp [hl', hd's], fun k x hx => ?_⟩
      rw [List.getElem?_map] at hx
      obtain ⟨p, hp, rfl⟩ := Option.map_eq_some_iff.1 hx
      obtain ⟨hk', rfl⟩ := List.getElem?_eq_some_iff.1 hp
      have hR' := (hmem _ (List.getElem_mem hk')).2
      refine ⟨enc (z'[k]).1, E.mono hR' (fun _ h _ => h) (fun b h hb => q4 b hb h.2), fun j hj => ?_⟩
      have hkl : k < d'.size := by rw [hd's]; rw [List.length_map] at hl'; omega
      have ht : k * E.sz + j < d'.size * E.sz := chunk_lt hkl hj
      have e1 : (k * E.sz + j) / E.sz = k := by rw [Nat.mul_comm, Nat.mul_add_div hsz, Nat.div_eq_of_lt hj]; rfl
      have e2 : (k * E.sz + j) % E.sz = j := by rw [Nat.mul_comm, Nat.mul_add_mod]; exact Nat.mod_eq_of_lt hj
      have h3 := get_flatK enc E.sz d' _ ht
      rw [e1, e2, hget' k hk'] at h3
      have hj' : j < (enc (z'[k]).1).length := by rw [hk]; exact hj
      rw [List.getElem?_eq_getElem (by simpa using ht), List.getElem?_eq_getElem hj', Array.getElem_toList, ← getElem!_pos (flatK enc E.sz d') _ (by simpa using ht), h3, getElem!_pos (enc (z'[k]).1) j hj']
end
end
end Go.Proofs.YtckkjjiaecnciaaGreat
