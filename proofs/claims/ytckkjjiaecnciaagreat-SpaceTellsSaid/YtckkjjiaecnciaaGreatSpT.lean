/-
  Layer 16, the program: slices.SortFunc at terms, numbers and rules.
-/
import Derived.Test.YtckkjjiaecnciaaGreatSpL
import Derived.Test.YtckkjjiaecnciaaGreatGsA
import Derived.Test.YtckkjjiaecnciaaGreatSpS
import Derived.Test.YtckkjjiaecnciaaGreatSpG
namespace Go.Proofs.YtckkjjiaecnciaaGreat
open Go Go.RowKit Go.Shelf Go.Sort

section
variable {α : Type} [Inhabited α] {enc : α → List Value}
/-- A row of one's own: what the sort's contract wants of it, and what is left. -/
theorem own_sortB {β : Type} {E : Elt β} (hk : ∀ x, (enc x).length = E.sz) {S : Nat → Prop} {base : Nat} {e : TypeId} {w : World} {v : Value} {l : List β} (hl : Own E S base e w v l) (hne : l ≠ []) (hbase : base ≤ w.heap.size)
    {K : α → β → Prop} (hin : ∀ x ∈ l, ∀ cs, E.R (fun b => S b ∧ v.ownBlock ≠ some b) w x cs → ∃ y, enc y = cs ∧ K y x) :
    ∃ (g cap : Nat) (d : Array α), v = .slice (some ⟨g, 0, none⟩) d.size cap ∧ g < w.heap.size ∧ d.size = l.length ∧ HoldsK enc E.sz w g 0 d ∧
      ∀ d' n os, PermIn 0 d.size d d' → ∃ l' : List β, l'.Perm l ∧ (∀ (k : Nat) x, l'[k]? = some x → K d'[k]! x) ∧ Own E S base e (sortWorldK enc E.sz w g 0 n d' os) v l' ∧ Below base w (sortWorldK enc E.sz w g 0 n d' os) := by
  obtain ⟨g, cap, cur, rfl, hg, hc, hm, hcl, hR, hF⟩ := hl.flatE hne
  have hsz := E.pos
  have hlc : l.length * E.sz ≤ cur.length := by rw [hcl]; exact Nat.mul_le_mul_right _ hc
  obtain ⟨z, hz1, hz2⟩ := pick_list (α := α × β) (P := fun k p => l[k]? = some p.2 ∧ K p.1 p.2 ∧ E.R (fun b => S b ∧ b ≠ g) w p.2 (enc p.1) ∧ ∀ j, j < E.sz → cur[k * E.sz + j]? = (enc p.1)[j]?) l.length (fun k hk => by
    obtain ⟨cs, h1, h2⟩ := hF.2 k _ (List.getElem?_eq_getElem hk)
    obtain ⟨y, rfl, hy⟩ := hin _ (List.getElem_mem hk) _ (E.mono h1 (fun b hb _ => ⟨hb.1, fun e => hb.2 (by have e9 : some g = some b := e; simpa using e9.symm)⟩) fun _ _ _ => rfl)
    exact ⟨(y, l[k]), List.getElem?_eq_getElem hk, hy, h1, fun j hj => by rw [← h2 j hj, List.getElem?_take_of_lt (chunk_lt hk hj)]⟩)
  have hzl : z.map Prod.snd = l := by
    apply List.ext_getElem?
    intro k
    rw [List.getElem?_map]
    cases h : z[k]? with
    | none => rw [List.getElem?_eq_none (by rw [← hz1]; exact List.getElem?_eq_none_iff.1 h)]; rfl
    | some p => rw [(hz2 k p h).1]; rfl
  have hds : (z.map Prod.fst).toArray.size = l.length := by simp [hz1]
  have hget : ∀ k (hk : k < z.length), (z.map Prod.fst).toArray[k]! = (z[k]).1 := fun k hk => by
    rw [getElem!_pos (z.map Prod.fst).toArray k (by simpa using hk)]; simp
  refine ⟨g, cap, (z.map Prod.fst).toArray, by rw [hds], hR.lt, hds, row_holds hR hsz hk (by rw [hds]; exact hlc) (fun i j hi hj => ?_), fun d' n os hp => ?_⟩
  · have hi' : i < z.length := by rw [hz1]; rw [hds] at hi; exact hi
    rw [(hz2 i _ (List.getElem?_eq_getElem hi')).2.2.2 j hj, hget i hi']
  · obtain ⟨hp1, -, hp3⟩ := hp
    rw [Array.extract_eq_self_of_le (by omega), Array.extract_eq_self_of_le (Nat.le_refl _)] at hp3
    obtain ⟨z', hz3, hz4⟩ := perm_map_lift (f := Prod.fst) hp3 z (by simp)
    have hd' : d' = (z'.map Prod.fst).toArray := by rw [hz4]
    have hl' : (z'.map Prod.snd).length = l.length := by rw [List.length_map, hz3.length_eq, hz1]
    have hget' : ∀ k (hk : k < z'.length), d'[k]! = (z'[k]).1 := fun k hk => by
      rw [hd', getElem!_pos (z'.map Prod.fst).toArray k (by simpa using hk)]; simp
    have hmem : ∀ p ∈ z', K p.1 p.2 ∧ E.R (fun b => S b ∧ b ≠ g) w p.2 (enc p.1) := fun p hp => by
      obtain ⟨k, hk, rfl⟩ := List.mem_iff_getElem.1 (hz3.mem_iff.1 hp)
      exact ⟨(hz2 k _ (List.getElem?_eq_getElem hk)).2.1, (hz2 k _ (List.getElem?_eq_getElem hk)).2.2.1⟩
    have hd's : d'.size = l.length := by rw [hp1, hds]
    obtain ⟨cur', q1, q2, q3, q4, q5, q6, q7, q8⟩ := row_sorted (enc := enc) (sz := E.sz) (n := n) (d := d') (os := os) hR (by rw [hd's]; exact hlc)
    refine ⟨z'.map Prod.snd, by rw [← hzl]; exact hz3.map _, fun k x hx => ?_, ?_, ⟨q6, q7, q8, q5, fun b hb => q4 b (by omega) (by omega)⟩⟩
    · rw [List.getElem?_map] at hx
      obtain ⟨p, hp, rfl⟩ := Option.map_eq_some_iff.1 hx
      obtain ⟨hk', rfl⟩ := List.getElem?_eq_some_iff.1 hp
      rw [hget' k hk']
      exact (hmem _ (List.getElem_mem hk')).1
    · refine FlatE.own q1 hl'.symm ?_ hg (by rw [q2]; exact hcl) hc hm
      rw [hd's] at q3
      rw [q3]
      refine ⟨by simp [hl', hd's], fun k x hx => ?_⟩
      rw [List.getElem?_map] at hx
      obtain ⟨p, hp, rfl⟩ := Option.map_eq_some_iff.1 hx
      obtain ⟨hk', rfl⟩ := List.getElem?_eq_some_iff.1 hp
      have hR' := (hmem _ (List.getElem_mem hk')).2
      refine ⟨enc (z'[k]).1, E.mono hR' (fun _ h _ => h) (fun b h hb => q4 b hb h.2), fun j hj => ?_⟩
      have hkl : k < d'.size := by rw [hd's]; rw [List.length_map] at hl'; omega
      have ht : k * E.sz + j < d'.size * E.sz := chunk_lt hkl hj
      have e1 : (k * E.sz + j) / E.sz = k := by rw [Nat.mul_comm, Nat.mul_add_div hsz, Nat.div_eq_of_lt hj]; rfl
      have e2 : (k * E.sz + j) % E.sz = j := by rw [Nat.mul_comm, Nat.mul_add_mod]; exact Nat.mod_eq_of_lt hj
      have h3 := get_flatK enc E.sz d' _ ht
      rw [e1, e2, hget' k hk'] at h3
      have hj' : j < (enc (z'[k]).1).length := by rw [hk]; exact hj
      rw [List.getElem?_eq_getElem (by simpa using ht), List.getElem?_eq_getElem hj', Array.getElem_toList, ← getElem!_pos (flatK enc E.sz d') _ (by simpa using ht), h3, getElem!_pos (enc (z'[k]).1) j hj']
end
theorem swo_of {α β : Type} {c : β → β → Int} (hc : Cmp c) (f : α → β) : SWO (ltOf fun x y : α => c (f x) (f y)) where
  irrefl x := by unfold ltOf; simp [hc.irr]
  trans x y z h1 h2 := by
    unfold ltOf at *
    simp only [decide_eq_true_eq] at *
    exact hc.trans h1 h2
  ntrans x y z h1 h2 := by
    unfold ltOf at *
    simp only [decide_eq_false_iff_not] at *
    have h3 := hc.neg (f x) (f y)
    have h4 := hc.neg (f y) (f z)
    have h5 := hc.neg (f x) (f z)
    have := hc.le_trans (a := f z) (b := f y) (d := f x) (by omega) (by omega)
    omega
/-- One cell an element: the same world. -/
theorem flat_one {α : Type} [Inhabited α] (enc : α → Value) (d : Array α) : flatK (fun x => [enc x]) 1 d = d.map enc := by
  apply Array.ext
  · simp
  · intro i h1 h2
    have h3 : i < d.size := by simpa using h2
    rw [← getElem!_pos (flatK (fun x => [enc x]) 1 d) i h1, get_flatK _ _ _ _ (by simpa using h3)]
    simp only [Nat.div_one, Nat.mod_one, Array.getElem_map, getElem!_pos d i h3]
    rfl
theorem world_one {α : Type} [Inhabited α] (enc : α → Value) (w : World) (blk off m : Nat) (d : Array α) (os : Array Obj) : sortWorld enc w blk off m d os = sortWorldK (fun x => [enc x]) 1 w blk off m d os := by
  unfold sortWorld sortWorldK putRowK
  rw [flat_one]
  unfold putRow putCells
  congr 2
  funext c
  congr 1
  funext k x
  simp only [Array.size_map]
  split
  · rename_i h
    have h3 : k - off < d.size := by omega
    rw [getElem!_pos d (k - off) h3, getElem!_pos (d.map enc) (k - off) (by simpa using h3)]
    simp
  · rfl
theorem holds_one {α : Type} [Inhabited α] {enc : α → Value} {w : World} {blk off : Nat} {d : Array α} (h : HoldsK (fun x => [enc x]) 1 w blk off d) : Sort.Holds enc w blk off d := by
  intro j hj
  unfold HoldsK at h
  rw [flat_one] at h
  have h1 := h j (by simpa using hj)
  rw [getElem!_pos (d.map enc) j (by simpa using hj)] at h1
  rw [getElem!_pos d j hj]
  simpa using h1
/-- Old blocks but the sorted one. -/
theorem world_old {α : Type} [Inhabited α] (enc : α → List Value) (sz : Nat) (w : World) (g n : Nat) (d : Array α) (os : Array Obj) : w.grownBy (sortWorldK enc sz w g 0 n d os) (some g) := by
  have hs : (putRowK enc sz (Sort.ahead w n) g 0 d).heap.size = w.heap.size := by simp [putRowK, putRow, mapBlock, Sort.ahead]
  refine ⟨rfl, rfl, rfl, by unfold sortWorldK; rw [size_grow, hs]; omega, fun b hb hne => ?_⟩
  unfold sortWorldK
  rw [heap_grow_old _ _ (by rw [hs]; exact hb)]
  simp only [putRowK, putRow, mapBlock, Sort.ahead, Array.getElem?_modify]
  rw [if_neg (fun e => hne (by rw [e]))]
theorem gr_seqL {α : Type} {E : Elt α} {S : Nat → Prop} {w w' : World} {o : Option Nat} {v : Value} {l : List α} (h : Seq E S w v l) (hw : w.grownBy w' o) (hS : ∀ b, S b → o ≠ some b) : Seq E S w' v l :=
  h.mono (fun _ h _ => h) fun b hb hl => hw.block b hl (fun e => hS b hb e.symm)
theorem grow_ret {v : Value} {w : World} {e : Ending} {w' : World} (h : RetG v w e w') : e = .returned v ∧ ∃ q os, w' = grow (w.drewN q) os := ⟨h.1, GrowW.of h.2.1 h.2.2⟩
theorem cmpT_ok : Cmp cmpT := ⟨cmpT_zero, cmpT_neg, cmpT_trans⟩
theorem sorted_of {α : Type} {c : α → α → Int} (hc : Cmp c) {β : Type} [Inhabited β] {f : β → α} {d : Array β} {l : List α} (hl : d.size = l.length) (h : SortedIn (ltOf fun x y : β => c (f x) (f y)) 0 d.size d) (hk : ∀ (k : Nat) x, l[k]? = some x → f d[k]! = x) : l.Pairwise fun a b => c a b ≤ 0 := by
  refine List.pairwise_iff_getElem.2 fun i j hi hj hij => ?_
  have h5 := h i j (Nat.zero_le _) hij (by omega)
  have h6 := hk i _ (List.getElem?_eq_getElem hi)
  have h7 := hk j _ (List.getElem?_eq_getElem hj)
  unfold ltOf at h5
  simp only [decide_eq_false_iff_not] at h5
  rw [h6, h7] at h5
  have := hc.neg l[i] l[j]
  omega

set_option maxHeartbeats 1600000 in
theorem sortTerm_spec {S : Nat → Prop} {base : Nat} {w : World} {v : Value} {l : List (List Cell)} (hl : Own (seqE cellE) S base 23 w v l) (hbase : base ≤ w.heap.size) (hlen : l.length ≤ 1000000) :
    Calls Tryz.prog 73 #[v, .func (.func 42) #[] #[]] w fun e w' => e = .returned (.tuple #[]) ∧ Below base w w' ∧ ∃ l', l'.Perm l ∧ l'.Pairwise (fun a b => cmpT a b ≤ 0) ∧ Own (seqE cellE) S base 23 w' v l' := by
  by_cases hne : l = []
  · subst hne
    obtain ⟨a, c, rfl, -⟩ := hl.shape
    refine (AnyF.slices_SortFunc_none (P := Tryz.prog) (ρ := sortT_ren) { sortT with } a c (.func (.func 42) #[] #[]) w).mono ?_
    rintro e w' ⟨rfl, rfl⟩
    exact ⟨rfl, Below.refl _ _, [], List.Perm.refl _, List.Pairwise.nil, hl⟩
  · have eg : ∀ args w, (callFunc 42 args).run Tryz.prog w = .ok (.enter 42 args) w := enters_of Tryz.func42 (by kernel_rfl) rfl
    letI : Inhabited { p : Value × List Cell // Seq cellE (fun b => S b ∧ v.ownBlock ≠ some b) w p.1 p.2 } := ⟨⟨(.slice none 0 0, []), Seq.nil _ _ _⟩⟩
    obtain ⟨g, cap, d, hv, hg, hds, hH, hfin⟩ := own_sortB (α := { p : Value × List Cell // Seq cellE (fun b => S b ∧ v.ownBlock ≠ some b) w p.1 p.2 }) (enc := fun x => [x.1.1]) (E := seqE cellE) (K := fun y x => y.1.2 = x) (fun x => rfl) hl hne hbase (fun x hx cs hR => by
      obtain ⟨u, rfl, hu⟩ := hR
      exact ⟨⟨(u, x), hu⟩, rfl, rfl⟩)
    have hvb : v.ownBlock = some g := by rw [hv]; rfl
    have hone : ∀ x : { p : Value × List Cell // Seq cellE (fun b => S b ∧ v.ownBlock ≠ some b) w p.1 p.2 }, x.1.1.oneCell' = true := fun x => by
      obtain ⟨ao, cap, hx, -⟩ := x.2
      rw [hx]; rfl
    have hcmp : CmpLays1 Tryz.prog 42 #[] (fun x : { p : Value × List Cell // Seq cellE (fun b => S b ∧ v.ownBlock ≠ some b) w p.1 p.2 } => x.1.1) (fun x y => cmpT x.1.2 y.1.2) g 0 d.size w := fun m os dk _ x y => by
      rw [world_one]
      have hgw := world_old (fun x : { p : Value × List Cell // Seq cellE (fun b => S b ∧ v.ownBlock ≠ some b) w p.1 p.2 } => [x.1.1]) 1 w g m dk os
      exact (CompareG_spec (gr_seqL x.2 hgw fun b h e => h.2 (by rw [hvb]; exact e)) (gr_seqL y.2 hgw fun b h e => h.2 (by rw [hvb]; exact e))).mono fun _ _ h => grow_ret h
    have hsort := Any.slices_SortFunc (P := Tryz.prog) (ρ := sortT_ren) sortT (fun x : { p : Value × List Cell // Seq cellE (fun b => S b ∧ v.ownBlock ≠ some b) w p.1 p.2 } => x.1.1) hone (fun x y => cmpT x.1.2 y.1.2) (swo_of cmpT_ok fun x : { p : Value × List Cell // Seq cellE (fun b => S b ∧ v.ownBlock ≠ some b) w p.1 p.2 } => x.1.2) 42 #[] g 0 cap d w eg hcmp (holds_one hH) hg (by omega)
    rw [← hv] at hsort
    refine hsort.mono ?_
    rintro e w' ⟨rfl, d', n, os, hp, hs, rfl⟩
    rw [world_one]
    obtain ⟨l', h1, h2, h3, h4⟩ := hfin d' n os hp
    exact ⟨rfl, h4, l', h1, sorted_of cmpT_ok (f := fun x : { p : Value × List Cell // Seq cellE (fun b => S b ∧ v.ownBlock ≠ some b) w p.1 p.2 } => x.1.2) (by rw [hp.1, hds, h1.length_eq]) (by rw [hp.1]; exact hs) h2, h3⟩
end Go.Proofs.YtckkjjiaecnciaaGreat
