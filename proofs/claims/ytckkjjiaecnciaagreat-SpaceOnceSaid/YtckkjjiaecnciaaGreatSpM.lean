/-
  Layer 14, the program: Sort.
-/
import Derived.Test.YtckkjjiaecnciaaGreatSpN
import Derived.Test.YtckkjjiaecnciaaGreatSpK
namespace Go.Proofs.YtckkjjiaecnciaaGreat
section
open Go Go.RowKit

set_option maxHeartbeats 12800000 in
set_option maxRecDepth 100000 in
theorem sort1_spec {S : Nat → Prop} {w : World} {bs sc : Nat} {sa : Option Addr} {s : List Tab} {i j : Nat} (hc : w.cell? ⟨bs, 0, none⟩ = some (.slice sa s.length sc)) (hs : Seq tabE S w (.slice sa s.length sc) s) (hi : i < s.length) (hj : j < s.length) :
    Calls Tryz.prog 41 #[.int .i64 i, .int .i64 j, .pointer (some ⟨bs, 0, none⟩)] w (RetG (.int .i64 (cmpT s[i].call s[j].call)) w) := by
  have cl := World.block_lt_of_cell? _ _ hc
  obtain ⟨_, _, ee, -, -, -, -, x5⟩ := hs
  simp only [Value.slice.injEq, true_and] at ee
  obtain ⟨rfl, rfl⟩ := ee
  obtain ⟨b, off, ha, hca, _, _, rfl, -, lb, c0, -, hH, -⟩ := x5.tab hi
  obtain ⟨b2, off2, ha2, hc2, _, _, e6, -, -, d0, -, hX, -⟩ := x5.tab hj
  simp only [Option.some.injEq, Addr.mk.injEq, and_true] at e6
  obtain ⟨rfl, rfl⟩ := e6
  obtain ⟨x, hx⟩ : ∃ x, x = s[i] := ⟨_, rfl⟩
  obtain ⟨y, hy⟩ : ∃ y, y = s[j] := ⟨_, rfl⟩
  rw [← hx] at c0 hH ⊢
  rw [← hy] at d0 hX ⊢
  have CC := Lib.hid (fun (W : World) (h : Below w.heap.size w W) => CompareG_spec (w := W) (hH.at h) (hX.at h))
  have hiI : (i : Int) < (s.length : Int) := by omega
  have hjI : (j : Int) < (s.length : Int) := by omega
  have hi0 : (0 : Int) ≤ (i : Int) := by omega
  have hj0 : (0 : Int) ≤ (j : Int) := by omega
  obtain ⟨z, hz⟩ : ∃ z, z = cmpT x.call y.call := ⟨_, rfl⟩
  rw [← hz] at CC ⊢
  clear hx hy hH hX x5 hi hj hz
  go_enter Tryz.func41, Tryz.ntmps41
  go_upto_region 1 with fail
  have Hkeep := fun {Wk : World} (hW : Below w.heap.size w Wk) => Lib.hid (show Wk.cell? ⟨bs, 0, none⟩ = some (.slice (some ⟨b, off, none⟩) s.length sc) ∧ Wk.cell? ⟨b, off + i * 2, none⟩ = some (.slice ha x.call.length hca) ∧ Wk.cell? ⟨b, off + j * 2, none⟩ = some (.slice ha2 y.call.length hc2) from ⟨(hW.cell (p := ⟨bs, 0, none⟩) cl).trans hc, (hW.cell (p := ⟨b, off + i * 2, none⟩) lb).trans c0, (hW.cell (p := ⟨b, off + j * 2, none⟩) lb).trans d0⟩)
  (try simp only [List.append_eq, List.cons_append, List.nil_append])
  refine wp_region_noPanic ?_
  refine wp_region_held_drew (S := fun w' => w'.cell? ⟨bs, 0, none⟩ = some (.slice (some ⟨b, off, none⟩) s.length sc) ∧ w'.cell? ⟨b, off + i * 2, none⟩ = some (.slice ha x.call.length hca) ∧ w'.cell? ⟨b, off + j * 2, none⟩ = some (.slice ha2 y.call.length hc2)) (by kernel_rfl) ?_ (fun hHeld => ?_)
  · exact (Hkeep (Below.drew (Below.refl _ _))).out
  refine wpAnyH_take1 (i := 0) (oi := _) (v := ?_) (by kernel_rfl) rfl (by kernel_rfl) (fun _ _ _ h => h) (Or.inl ⟨by rfl, ?_⟩) (by assumption) ?_
  rotate_left 1
  · intro w hSw; (try dsimp only at hSw); go_simp; (with_reducible rfl)
  (try simp only [Act.put, List.getElem_toArray, List.getElem_cons_zero, List.setIfInBounds_toArray, List.set_cons_zero, List.set_cons_succ])
  refine wpAnyH_take1 (i := 1) (oi := _) (v := ?_) (by kernel_rfl) rfl (by kernel_rfl) (fun _ _ _ h => h) (Or.inl ⟨by rfl, ?_⟩) (by assumption) ?_
  rotate_left 1
  · intro w hSw; (try dsimp only at hSw); go_simp; (with_reducible rfl)
  (try simp only [Act.put, List.getElem_toArray, List.getElem_cons_zero, List.getElem_cons_succ, List.setIfInBounds_toArray, List.set_cons_zero, List.set_cons_succ])
  refine wpAnyH_take1 (i := 2) (oi := _) (v := ?_) (by kernel_rfl) rfl (by kernel_rfl) (fun _ _ _ h => h) (Or.inl ⟨by rfl, ?_⟩) (by assumption) ?_
  rotate_left 1
  · intro w hSw; (try dsimp only at hSw); go_simp; (with_reducible rfl)
  (try simp only [Act.put, List.getElem_toArray, List.getElem_cons_zero, List.getElem_cons_succ, List.setIfInBounds_toArray, List.set_cons_zero, List.set_cons_succ])
  refine wpAnyH_take1 (i := 3) (oi := _) (v := ?_) (by kernel_rfl) rfl (by kernel_rfl) (fun _ _ _ h => h) (Or.inl ⟨by rfl, ?_⟩) (by assumption) ?_
  rotate_left 1
  · intro w hSw; (try dsimp only at hSw); go_simp; (with_reducible rfl)
  (try simp only [Act.put, List.getElem_toArray, List.getElem_cons_zero, List.getElem_cons_succ, List.setIfInBounds_toArray, List.set_cons_zero, List.set_cons_succ])
  refine wpAnyH_take1 (i := 4) (oi := _) (v := ?_) (by kernel_rfl) rfl (by kernel_rfl) (fun _ _ _ h => h) (Or.inl ⟨by rfl, ?_⟩) (by assumption) ?_
  rotate_left 1
  · intro w hSw; (try dsimp only at hSw); go_simp; (with_reducible rfl)
  (try simp only [Act.put, List.getElem_toArray, List.getElem_cons_zero, List.getElem_cons_succ, List.setIfInBounds_toArray, List.set_cons_zero, List.set_cons_succ])
  refine wpAnyH_take1 (i := 5) (oi := _) (v := ?_) (by kernel_rfl) rfl (by kernel_rfl) (fun _ _ _ h => h) (Or.inl ⟨by rfl, ?_⟩) (by assumption) ?_
  rotate_left 1
  · intro w hSw; (try dsimp only at hSw); go_simp; (with_reducible rfl)
  (try simp only [Act.put, List.getElem_toArray, List.getElem_cons_zero, List.getElem_cons_succ, List.setIfInBounds_toArray, List.set_cons_zero, List.set_cons_succ])
  refine wpAnyH_take1 (i := 6) (oi := _) (v := ?_) (by kernel_rfl) rfl (by kernel_rfl) (fun _ _ _ h => h) (Or.inl ⟨by rfl, ?_⟩) (by assumption) ?_
  rotate_left 1
  · intro w hSw; (try dsimp only at hSw); go_simp; (with_reducible rfl)
  (try simp only [Act.put, List.getElem_toArray, List.getElem_cons_zero, List.getElem_cons_succ, List.setIfInBounds_toArray, List.set_cons_zero, List.set_cons_succ])
  refine wpAnyH_take1 (i := 7) (oi := _) (v := ?_) (by kernel_rfl) rfl (by kernel_rfl) (fun _ _ _ h => h) (Or.inl ⟨by rfl, ?_⟩) (by assumption) ?_
  rotate_left 1
  · intro w hSw; (try dsimp only at hSw); go_simp; (with_reducible rfl)
  (try simp only [Act.put, List.getElem_toArray, List.getElem_cons_zero, List.getElem_cons_succ, List.setIfInBounds_toArray, List.set_cons_zero, List.set_cons_succ])
  refine wpAnyH_take1 (i := 8) (oi := _) (v := ?_) (by kernel_rfl) rfl (by kernel_rfl) (fun _ _ _ h => h) (Or.inl ⟨by rfl, ?_⟩) (by assumption) ?_
  rotate_left 1
  · intro w hSw; (try dsimp only at hSw); go_simp; (with_reducible rfl)
  (try simp only [Act.put, List.getElem_toArray, List.getElem_cons_zero, List.getElem_cons_succ, List.setIfInBounds_toArray, List.set_cons_zero, List.set_cons_succ])
  refine wpAnyH_take1 (i := 9) (oi := _) (v := ?_) (by kernel_rfl) rfl (by kernel_rfl) (fun _ _ _ h => h) (Or.inl ⟨by rfl, ?_⟩) (by assumption) ?_
  rotate_left 1
  · intro w hSw; (try dsimp only at hSw); go_simp; (with_reducible rfl)
  (try simp only [Act.put, List.getElem_toArray, List.getElem_cons_zero, List.getElem_cons_succ, List.setIfInBounds_toArray, List.set_cons_zero, List.set_cons_succ])
  refine wpAnyH_one (i := 10) (by kernel_rfl) rfl (by rfl) fun K hK => ?_
  go_simp
  refine ((CC.out _ Seq.way)).mono ?_
  rintro e y1 ⟨rfl, hy1, hd1⟩
  have HY1 := below_step hy1 (Seq.way : Below w.heap.size w _)
  have zy1 := HY1.size
  (try dsimp only)
  clear hHeld
  refine hK.out _ _ (Hkeep HY1).out fun hHeld => ?_
  clear hK K
  (try simp only [Act.put, List.getElem_toArray, List.getElem_cons_zero, List.getElem_cons_succ, List.setIfInBounds_toArray, List.set_cons_zero, List.set_cons_succ])
  refine wpAnyH_take1 (i := 11) (oi := _) (v := ?_) (by kernel_rfl) rfl (by kernel_rfl) (fun _ _ _ h => h) (Or.inl ⟨by rfl, ?_⟩) (by assumption) ?_
  rotate_left 1
  · intro w hSw; (try dsimp only at hSw); go_simp; (with_reducible rfl)
  (try simp only [Act.put, List.getElem_toArray, List.getElem_cons_zero, List.getElem_cons_succ, List.setIfInBounds_toArray, List.set_cons_zero, List.set_cons_succ])
  refine wpAnyH_done (by kernel_rfl) ?_ _
  refine NoPanic.normal ?_
  clear Hkeep hHeld
  go_wp2_with fail
  go_ret
  exact ⟨rfl, HY1, by simp only [drawn_drew] at hd1; omega⟩
end
section
open Go Go.RowKit Go.Shelf Go.Sort

set_option maxHeartbeats 1600000 in
set_option maxRecDepth 100000 in
theorem sortOrd_spec {S : Nat → Prop} {base : Nat} {w : World} {v : Value} {l : List Int} {bs sc : Nat} {sa : Option Addr} {s : List Tab} (hl : Own intE S base 3 w v l) (hbase : base ≤ w.heap.size) (hlen : l.length ≤ 1000000)
    (hr : ∀ x ∈ l, 0 ≤ x ∧ x < s.length) (hc : w.cell? ⟨bs, 0, none⟩ = some (.slice sa s.length sc)) (hb : bs < base) (hs : Seq tabE (fun b => b < base) w (.slice sa s.length sc) s) :
    Calls Tryz.prog 40 #[v, .func (.func 41) #[] #[.pointer (some ⟨bs, 0, none⟩)]] w fun e w' => e = .returned (.tuple #[]) ∧ Below base w w' ∧ ∃ l', l'.Perm l ∧ l'.Pairwise (fun a b => cmpT (callAt s a.toNat) (callAt s b.toNat) ≤ 0) ∧ Own intE S base 3 w' v l' := by
  by_cases hne : l = []
  · subst hne
    obtain ⟨a, c, rfl, -⟩ := hl.shape
    refine (AnyF.slices_SortFunc_none (P := Tryz.prog) (ρ := sortX_ren) { sortX with } a c (.func (.func 41) #[] #[.pointer (some ⟨bs, 0, none⟩)]) w).mono ?_
    rintro e w' ⟨rfl, rfl⟩
    exact ⟨rfl, Below.refl _ _, [], List.Perm.refl _, List.Pairwise.nil, hl⟩
  · have eg : ∀ args w, (callFunc 41 args).run Tryz.prog w = .ok (.enter 41 args) w := enters_of Tryz.func41 (by kernel_rfl) rfl
    letI : Inhabited { n : Int // 0 ≤ n ∧ n < s.length } := ⟨⟨l.head hne, hr _ (List.head_mem hne)⟩⟩
    obtain ⟨g, cap, d, hv, hg, hds, hH, hfin⟩ := own_sortB (α := { n : Int // 0 ≤ n ∧ n < s.length }) (enc := fun n => [Value.int .i64 n.1]) (E := intE) (K := fun y x => y.1 = x) (fun x => rfl) hl hne hbase (fun x hx cs hR => by
      obtain ⟨rfl, -⟩ := hR
      exact ⟨⟨x, hr x hx⟩, rfl, rfl⟩)
    have hgb : base ≤ g := (hl.blk (b := g) (by rw [hv]; rfl)).1
    have hcmp : CmpLays1 Tryz.prog 41 #[.pointer (some ⟨bs, 0, none⟩)] (fun n : { n : Int // 0 ≤ n ∧ n < s.length } => Value.int .i64 n.1) (fun x y => cmpT (callAt s x.1.toNat) (callAt s y.1.toNat)) g 0 d.size w := fun m os dk _ x y => by
      rw [world_one]
      have hgw := world_old (fun n : { n : Int // 0 ≤ n ∧ n < s.length } => [Value.int .i64 n.1]) 1 w g m dk os
      obtain ⟨x, hx0, hx1⟩ := x
      obtain ⟨y, hy0, hy1⟩ := y
      obtain ⟨i, rfl⟩ := Int.eq_ofNat_of_zero_le hx0
      obtain ⟨j, rfl⟩ := Int.eq_ofNat_of_zero_le hy0
      have hi : i < s.length := by omega
      have hj : j < s.length := by omega
      have h1 := sort1_spec (hgw.cell hc (fun e => by simp only [Option.some.injEq] at e; omega)) (gr_seqL hs hgw fun b h e => by simp only [Option.some.injEq] at e; omega) hi hj
      simp only [Int.toNat_natCast, callAt_eq hi, callAt_eq hj, List.append_toArray, List.cons_append, List.nil_append]
      exact h1.mono fun _ _ h => grow_ret h
    have hsort := Any.slices_SortFunc (P := Tryz.prog) (ρ := sortX_ren) sortX (fun n : { n : Int // 0 ≤ n ∧ n < s.length } => Value.int .i64 n.1) (fun _ => rfl) (fun x y => cmpT (callAt s x.1.toNat) (callAt s y.1.toNat)) (swo_of cmpT_ok fun x : { n : Int // 0 ≤ n ∧ n < s.length } => callAt s x.1.toNat) 41 #[.pointer (some ⟨bs, 0, none⟩)] g 0 cap d w eg hcmp (holds_one hH) hg (by omega)
    rw [← hv] at hsort
    refine hsort.mono ?_
    rintro e w' ⟨rfl, d', n, os, hp, hs', rfl⟩
    rw [world_one]
    obtain ⟨l', h1, h2, h3, h4⟩ := hfin d' n os hp
    have h5 := sorted_of cmpT_ok (f := fun x : { n : Int // 0 ≤ n ∧ n < s.length } => callAt s x.1.toNat) (d := d') (l := l'.map fun x => callAt s x.toNat) (by rw [hp.1, hds, List.length_map, h1.length_eq]) (by rw [hp.1]; exact hs') fun k x hx => by
      rw [List.getElem?_map] at hx
      obtain ⟨y, hy, rfl⟩ := Option.map_eq_some_iff.1 hx
      rw [h2 k y hy]
    rw [List.pairwise_map] at h5
    exact ⟨rfl, h4, l', h1, h5, h3⟩
end
section
open Go Go.RowKit
/-! ### Rows of numbers of one's own -/
theorem own_ints {w : World} {base n : Nat} (hb : base ≤ w.heap.size) (hn : n ≤ 100000) :
    Own intE (fun _ => False) base 3 (w.alloc (.cells (madeCells #[.int .i64 0] n) 3)) (.slice (some ⟨w.heap.size, 0, none⟩) n n) (List.replicate n 0) := by
  rw [madeCells_one]
  refine ⟨List.replicate n (.int .i64 0), ⟨by simp [intE], .inr ⟨w.heap.size, n, _, by simp, hb, heap_alloc_new w _, by simp, by unfold maxLen; omega, by simp [intE], by simp [intE]⟩⟩, fun k x hx => ?_⟩
  obtain ⟨hk, hx⟩ := List.getElem?_eq_some_iff.1 hx
  rw [List.length_replicate] at hk
  rw [List.getElem_replicate] at hx
  subst hx
  refine ⟨[.int .i64 0], ⟨rfl, by unfold IntOK; omega⟩, fun j hj => ?_⟩
  obtain rfl : j = 0 := by have : j < 1 := hj; omega
  show (List.replicate n _)[k * 1 + 0]? = _
  rw [List.getElem?_replicate, if_pos (by omega)]; rfl
theorem Own.cellZ {S : Nat → Prop} {base : Nat} {e : TypeId} {w : World} {g n cap : Nat} {xs : List Int} (h : Own intE S base e w (.slice (some ⟨g, 0, none⟩) n cap) xs) {k : Nat} (hk : k < xs.length) :
    w.cell? ⟨g, k, none⟩ = some (.int .i64 xs[k]) ∧ w.frozen? ⟨g, k, none⟩ = false ∧ g < w.heap.size := by
  obtain ⟨vs, hv, h2⟩ := h
  obtain ⟨cs, ⟨rfl, -⟩, h4⟩ := h2 k _ (List.getElem?_eq_getElem hk)
  obtain ⟨g1, cap1, e1, -, lg, c1, f1⟩ := own_cell hv (i := k) (by show k < xs.length * 1; omega)
  simp only [Value.slice.injEq, Option.some.injEq, Addr.mk.injEq, and_true] at e1
  obtain ⟨rfl, -⟩ := e1
  have d1 := h4 0 (by decide)
  refine ⟨c1.trans ?_, f1 _, lg⟩
  simpa [intE] using d1
theorem Own.setZ {S : Nat → Prop} {base : Nat} {e : TypeId} {w : World} {g n cap : Nat} {xs : List Int} (h : Own intE S base e w (.slice (some ⟨g, 0, none⟩) n cap) xs) (hn : n = xs.length) {k : Nat} (hk : k < xs.length) {y : Int} (hy : IntOK y) :
    Own intE S base e (w.setCell ⟨g, k, none⟩ (.int .i64 y)) (.slice (some ⟨g, 0, none⟩) n cap) (xs.set k y) := by
  subst hn
  obtain ⟨vs, hv1, hv2⟩ := h
  have hl : vs.length = xs.length * 1 := hv1.1
  refine ⟨_, by rw [List.length_set]; exact ownsRow_set hv1 (j := k) (by show k < xs.length * 1; omega) (.int .i64 y), fun m x hx => ?_⟩
  by_cases hkm : k = m
  · subst hkm
    rw [List.getElem?_set_self hk] at hx
    simp only [Option.some.injEq] at hx
    subst hx
    refine ⟨_, ⟨rfl, hy⟩, fun j hj => ?_⟩
    obtain rfl : j = 0 := by have : j < 1 := hj; omega
    show (vs.set k _)[k * 1 + 0]? = _
    rw [Nat.mul_one, Nat.add_zero, List.getElem?_set_self (by omega)]; rfl
  · rw [List.getElem?_set_ne hkm] at hx
    obtain ⟨cs, h4, h5⟩ := hv2 m x hx
    refine ⟨cs, h4, fun j hj => ?_⟩
    obtain rfl : j = 0 := by have : j < 1 := hj; omega
    have := h5 0 hj
    show (vs.set k _)[m * 1 + 0]? = _
    rw [Nat.mul_one, Nat.add_zero, List.getElem?_set_ne hkm]
    simpa [intE] using this

/-! ### What the loops hold -/
def ordL (n k : Nat) : List Int := (List.range n).map fun i => if i < k then (i : Int) else 0
theorem ordL_len (n k : Nat) : (ordL n k).length = n := by unfold ordL; simp
theorem ordL_zero (n : Nat) : ordL n 0 = List.replicate n 0 := by
  apply List.ext_getElem
  · simp [ordL]
  · intro i h1 h2; simp [ordL]
theorem ordL_get {n k i : Nat} (h : i < (ordL n k).length) : (ordL n k)[i] = if i < k then (i : Int) else 0 := by simp [ordL]
theorem ordL_set {n k : Nat} (_ : k < n) : (ordL n k).set k (k : Int) = ordL n (k + 1) := by
  apply List.ext_getElem
  · simp [ordL]
  · intro i h1 h2
    rw [List.getElem_set, ordL_get, ordL_get]
    by_cases e : k = i
    · subst e; simp
    · rw [if_neg e]
      by_cases h : i < k
      · rw [if_pos h, if_pos (by omega)]
      · rw [if_neg h, if_neg (by omega)]
theorem ordL_all (n : Nat) : ordL n n = (List.range n).map fun i : Nat => (i : Int) := by
  unfold ordL
  refine List.map_congr_left fun i hi => ?_
  rw [if_pos (List.mem_range.1 hi)]
/-- What is known of the order. -/
structure OrdOK (s : List Tab) (o : List Nat) : Prop where
  len : o.length = s.length
  lt : ∀ i ∈ o, i < s.length
  nd : o.Nodup
  out : o.map (tabS s) = sortTs s
  plc : ∀ k (hk : k < o.length), plcS s o[k] = k
theorem ordOK_of {s : List Tab} (h : GoodS s) {l : List Int} (hp : l.Perm (ordL s.length s.length)) (hs : l.Pairwise fun a b => cmpT (callAt s a.toNat) (callAt s b.toNat) ≤ 0) : ∃ o : List Nat, l = o.map (fun i : Nat => (i : Int)) ∧ OrdOK s o := by
  rw [ordL_all] at hp
  have hm : ∀ x ∈ l, ∃ i : Nat, i < s.length ∧ x = (i : Int) := fun x hx => by
    obtain ⟨i, hi, rfl⟩ := List.mem_map.1 (hp.mem_iff.1 hx)
    exact ⟨i, List.mem_range.1 hi, rfl⟩
  have hn : l.Nodup := hp.nodup_iff.2 (List.Pairwise.map _ (fun a b hab e => hab (by omega)) List.nodup_range)
  have hle : l = (l.map Int.toNat).map (fun i : Nat => (i : Int)) := by
    rw [List.map_map]
    conv => lhs; rw [← List.map_id l]
    refine List.map_congr_left fun x hx => ?_
    obtain ⟨i, -, rfl⟩ := hm x hx
    simp
  refine ⟨l.map Int.toNat, hle, ?_⟩
  have hlen : (l.map Int.toNat).length = s.length := by rw [List.length_map, hp.length_eq]; simp
  have hlt : ∀ i ∈ l.map Int.toNat, i < s.length := fun i hi => by
    obtain ⟨x, hx, rfl⟩ := List.mem_map.1 hi
    obtain ⟨j, hj, rfl⟩ := hm x hx
    simpa using hj
  have hnd : (l.map Int.toNat).Nodup := by
    rw [hle] at hn
    exact (List.pairwise_map.1 hn).imp fun h e => h (by rw [e])
  have hst : (l.map Int.toNat).Pairwise fun i j => cmpT (callAt s i) (callAt s j) < 0 := by
    rw [List.pairwise_iff_getElem]
    intro i j hi hj hij
    have hi' : i < l.length := by simpa using hi
    have hj' : j < l.length := by simpa using hj
    have h1 := List.pairwise_iff_getElem.1 hs i j hi' hj' hij
    rw [List.getElem_map, List.getElem_map]
    have h2 : cmpT (callAt s l[i].toNat) (callAt s l[j].toNat) ≠ 0 := fun e => by
      have e2 := cmpT_cmp.zero.1 e
      obtain ⟨a, ha, ea⟩ := hm _ (List.getElem_mem hi')
      obtain ⟨b, hb, eb⟩ := hm _ (List.getElem_mem hj')
      rw [ea, eb] at e2
      simp only [Int.toNat_natCast] at e2
      rw [callAt_eq ha, callAt_eq hb] at e2
      have e3 := h.one a b ha hb e2
      exact (List.pairwise_iff_getElem.1 hn i j hi' hj' hij) (by rw [ea, eb, e3])
    omega
  obtain ⟨h3, h4⟩ := sort_of h hlt hlen hst
  exact ⟨hlen, hlt, hnd, h3, h4⟩
def outS (s : List Tab) (o : List Nat) (k : Nat) : List Tab := (o.take k).map (tabS s) ++ List.replicate (s.length - k) ⟨[], []⟩
theorem outS_len {s : List Tab} {o : List Nat} (h : o.length = s.length) {k : Nat} (hk : k ≤ s.length) : (outS s o k).length = s.length := by unfold outS; simp; omega
theorem outS_set {s : List Tab} {o : List Nat} (h : o.length = s.length) {k : Nat} (hk : k < o.length) : (outS s o k).set k (tabS s o[k]) = outS s o (k + 1) := by
  have hl : ((o.take k).map (tabS s)).length = k := by simp; omega
  unfold outS
  rw [List.set_append_right _ _ (by omega), hl, Nat.sub_self, show s.length - k = (s.length - (k + 1)) + 1 by omega, List.replicate_succ, List.set_cons_zero, List.take_succ_eq_append_getElem hk, List.map_append, List.append_assoc]
  rfl
theorem outS_all {s : List Tab} {o : List Nat} (h : OrdOK s o) : outS s o s.length = sortTs s := by
  unfold outS
  rw [Nat.sub_self, List.take_of_length_le (by rw [h.len]; exact Nat.le_refl _), ← h.out]
  simp
def plcK (n : Nat) (o : List Nat) (k : Nat) : List Int := (List.range k).foldl (fun (p : List Int) (j : Nat) => p.set (o[j]?.getD 0) (j : Int)) (List.replicate n 0)
theorem plcK_succ {n : Nat} {o : List Nat} {k : Nat} (hk : k < o.length) : plcK n o (k + 1) = (plcK n o k).set o[k] (k : Int) := by
  unfold plcK
  rw [List.range_succ, List.foldl_append, List.foldl_cons, List.foldl_nil, List.getElem?_eq_getElem hk]; rfl
theorem plcK_len (n : Nat) (o : List Nat) : ∀ k, (plcK n o k).length = n
  | 0 => by simp [plcK]
  | k + 1 => by
    unfold plcK
    rw [List.range_succ, List.foldl_append, List.foldl_cons, List.foldl_nil, List.length_set]
    exact plcK_len n o k
theorem plcK_at {s : List Tab} {o : List Nat} (h : OrdOK s o) {j : Nat} (hj : j < o.length) : ∀ k, k ≤ o.length → j < k → (plcK s.length o k)[o[j]]? = some (j : Int)
  | k + 1, hk, hjk => by
    rw [plcK_succ (show k < o.length by omega), List.getElem?_set]
    by_cases e : o[k] = o[j]
    · rw [if_pos e, if_pos (by rw [plcK_len]; exact h.lt _ (List.getElem_mem _))]
      obtain rfl := nodup_inj h.nd (by omega) hj e
      rfl
    · rw [if_neg e]
      rcases Nat.lt_or_ge j k with h1 | h1
      · exact plcK_at h hj k (by omega) h1
      · obtain rfl : j = k := by omega
        exact absurd rfl e
theorem plcK_all {s : List Tab} (hg : GoodS s) {o : List Nat} (h : OrdOK s o) : plcK s.length o s.length = placesS s := by
  apply List.ext_getElem
  · rw [plcK_len]; simp [placesS]
  · intro i h1 h2
    have hi : i < s.length := by rw [plcK_len] at h1; exact h1
    have hp := plc_lt hg hi
    have hpo : plcS s i < o.length := by rw [h.len]; exact hp
    have he : o[plcS s i] = i := plc_inj hg (h.lt _ (List.getElem_mem hpo)) hi (h.plc _ hpo)
    have h3 := plcK_at h hpo s.length (by rw [h.len]; exact Nat.le_refl _) hp
    rw [he, List.getElem?_eq_getElem h1, Option.some.injEq] at h3
    rw [h3]
    simp [placesS]

set_option maxRecDepth 100000 in
theorem valuesC_ret {w : World} {a : Option Addr} {n c : Nat} : Calls Tryz.prog 44 #[.slice a n c] w fun e w' => e = .returned (.func (.func 74) #[] #[.pointer (some ⟨w.heap.size, 0, none⟩)]) ∧ Below w.heap.size w w' ∧ w'.cell? ⟨w.heap.size, 0, none⟩ = some (.slice a n c) ∧ w.heap.size < w'.heap.size := by
  refine valuesC_spec.mono ?_
  rintro e w' ⟨rfl, rfl⟩
  have h := Row.new w [.slice a n c] 41 rfl
  exact ⟨rfl, Seq.way, h.cell (j := 0) (by simp), h.lt⟩

set_option maxHeartbeats 12800000 in
set_option maxRecDepth 100000 in
theorem SortP14_spec {S : Nat → Prop} {w : World} {v : Value} {s : List Tab} (hs : Seq tabE S w v s) (hg : GoodS s) :
    Calls Tryz.prog 16 #[v] w (fun e w' => ∃ o p, e = .returned (.tuple #[o, p]) ∧ Below w.heap.size w w' ∧ Seq tabE (Fr S w) w' o (sortTs s) ∧ Seq intE (Fr S w) w' p (placesS s)) := by
  have HS := Lib.hid hs.bnd
  obtain ⟨aa, ac, rfl⟩ := hs.shape
  have hlen := hg.len
  have HG := Lib.hid hg
  obtain ⟨W, hW⟩ : ∃ W, W = w.alloc (.cells #[.slice aa s.length ac] 22) := ⟨_, rfl⟩
  have HBW := Lib.hid (show Below w.heap.size w W by rw [hW]; exact Seq.way)
  have HR := Lib.hid (show Row 22 W w.heap.size [.slice aa s.length ac] by rw [hW]; exact Row.new w [_] 22 rfl)
  have hzW : W.heap.size = w.heap.size + 1 := by rw [hW]; simp
  have HSW := Lib.hid (HS.out.at HBW.out)
  have HW := Lib.hid hW
  obtain ⟨bs, hbs⟩ : ∃ b, b = w.heap.size := ⟨_, rfl⟩
  have Hbs := Lib.hid hbs
  have HzW := Lib.hid hzW
  rw [← hbs] at HR
  have c0 := HR.out.cell (j := 0) (by simp)
  have cl := HR.out.lt
  simp only [List.getElem_cons_zero] at c0
  clear hs hg hW hbs hzW
  have hmk := run_make_row' (P := Tryz.prog) 33 3 (.int .i64 0) 8 Tryz.underlying33 infoInt rfl .i64 .i64 s.length (by omega) (by omega)
  have hO0 := Lib.hid (show Own intE (fun _ => False) W.heap.size 3 (W.alloc (.cells (madeCells #[.int .i64 0] s.length) 3)) (.slice (some ⟨W.heap.size, 0, none⟩) s.length s.length) (ordL s.length 0) from ordL_zero s.length ▸ own_ints (Nat.le_refl _) (by omega))
  go_enter Tryz.func16, Tryz.ntmps16
  go_upto_region 1 with fail
  rw [← HW.out, ← Hbs.out]
  go_wp2_with fail
  clear hmk c0 cl
  go_loopw [15] (fun i wr => ∃ k : Nat, k ≤ s.length ∧ i = .int .i64 k ∧ Hid (Own intE (fun _ => False) W.heap.size 3 wr (.slice (some ⟨W.heap.size, 0, none⟩) s.length s.length) (ordL s.length k)) ∧ Hid (Below W.heap.size W wr)) (fun i _ => s.length - (intOf i).toNat)
  case atStart => exact ⟨0, Nat.zero_le _, rfl, hO0, Lib.hid Seq.way⟩
  case round =>
    obtain ⟨k, hk, rfl, hO, hbr⟩ := hrel
    clear hO0
    by_cases hlt : k < s.length
    · have hol := ordL_len s.length k
      obtain ⟨e0, f0, lg⟩ := hO.out.cellZ (k := k) (by omega)
      have HO1 := Lib.hid (show Own intE (fun _ => False) W.heap.size 3 (wr.setCell ⟨W.heap.size, k, none⟩ (.int .i64 k)) (.slice (some ⟨W.heap.size, 0, none⟩) s.length s.length) (ordL s.length (k + 1)) by
        rw [← ordL_set hlt]
        exact hO.out.setZ (by omega) (by omega) ⟨by omega, by omega⟩)
      have HB1 := Lib.hid (hbr.out.setCell (p := ⟨W.heap.size, k, none⟩) (Nat.le_refl _) (.int .i64 k))
      have hkI : (k : Int) < (s.length : Int) := by omega
      have hk0 : (0 : Int) ≤ (k : Int) := by omega
      go_wp2_with fail
      go_roundw
      case rel => exact ⟨k + 1, hlt, by go_num, HO1, HB1⟩
      case measure => simp [intOf]; omega
    · obtain rfl : k = s.length := by omega
      have hkI : ¬ (s.length : Int) < (s.length : Int) := by omega
      have c0 := (HR.out.below hbr.out HR.out.lt).cell (j := 0) (by simp)
      have cl := (HR.out.below hbr.out HR.out.lt).lt
      simp only [List.getElem_cons_zero] at c0
      have hzr := hbr.out.size
      obtain ⟨wo, rfl⟩ : ∃ wo, wo = wr := ⟨_, rfl⟩
      go_wp2_with fail
      refine (sortOrd_spec hO.out hzr (by rw [ordL_len]; omega) (fun x hx => by
        rw [ordL_all] at hx
        obtain ⟨i, hi, rfl⟩ := List.mem_map.1 hx
        have := List.mem_range.1 hi
        omega) c0 HR.out.lt ((HSW.out.at hbr.out).mono (fun b h _ => by have := h.2; have := HzW.out; omega) fun _ _ _ => rfl)).mono ?_
      rintro e w2 ⟨rfl, hb2, l', hp, hps, hown2⟩
      obtain ⟨o, rfl, ho⟩ := ordOK_of HG.out hp hps
      have HO := Lib.hid ho
      have B2 := Lib.hid (hbr.out.trans hb2)
      have HOr := Lib.hid (hown2.seq (T := fun _ => True) (by rw [List.length_map, ho.len]; omega) fun _ _ _ => trivial)
      have hol := ho.len
      have hzr2 := B2.out.size
      clear hp hps hb2 hown2 hO hbr c0 cl ho hzr
      have HRb := Lib.hid (fun (V : World) (h : Below w2.heap.size w2 V) => ((HR.out.below (below_step h B2.out) HR.out.lt).cell (j := 0) (by simp) : V.cell? ⟨bs, 0, none⟩ = some (.slice aa s.length ac)))
      have HRl := Lib.hid (fun (V : World) (h : Below w2.heap.size w2 V) => (HR.out.below (below_step h B2.out) HR.out.lt).lt)
      have c0 := HRb.out _ (Below.refl _ _)
      have cl := HRl.out _ (Below.refl _ _)
      have hmk := run_make_row' (P := Tryz.prog) 33 3 (.int .i64 0) 8 Tryz.underlying33 infoInt rfl .i64 .i64 s.length (by omega) (by omega)
      have hmk2 := run_make_two (P := Tryz.prog) 22 43 (.slice none 0 0) 48 Tryz.underlying22 infoTab rfl .i64 .i64 s.length (by omega) (by omega)
      have hT0 : Own tabE (fun b => (S b ∧ b < w.heap.size) ∨ w2.heap.size + 1 < b) w2.heap.size 43 (w2.alloc (.cells (List.replicate (s.length * 2) (.slice none 0 0)).toArray 43)) (.slice (some ⟨w2.heap.size, 0, none⟩) s.length s.length) (outS s o 0) := by
        have h := own_tabs (S := fun b => (S b ∧ b < w.heap.size) ∨ w2.heap.size + 1 < b) (w := w2) (base := w2.heap.size) (n := s.length) (Nat.le_refl _) (by omega)
        simpa [outS] using h
      have HT0 := Lib.hid (hT0.move (Seq.way (w' := (w2.alloc (.cells (List.replicate (s.length * 2) (.slice none 0 0)).toArray 43)).alloc (.cells (madeCells #[.int .i64 0] s.length) 3))))
      have HP0 := Lib.hid (show Own intE (fun _ => False) w2.heap.size 3 ((w2.alloc (.cells (List.replicate (s.length * 2) (.slice none 0 0)).toArray 43)).alloc (.cells (madeCells #[.int .i64 0] s.length) 3)) (.slice (some ⟨w2.heap.size + 1, 0, none⟩) s.length s.length) (plcK s.length o 0) by
        have h := own_ints (w := w2.alloc (.cells (List.replicate (s.length * 2) (.slice none 0 0)).toArray 43)) (base := w2.heap.size) (n := s.length) (by simp) (by omega)
        simpa [plcK] using h)
      clear hT0
      go_wp2_with fail
      clear c0 cl hmk hmk2 hkI
      go_loopw [34] (fun i wr => ∃ k : Nat, k ≤ s.length ∧ i = .int .i64 k ∧ Hid (Own tabE (fun b => (S b ∧ b < w.heap.size) ∨ w2.heap.size + 1 < b) w2.heap.size 43 wr (.slice (some ⟨w2.heap.size, 0, none⟩) s.length s.length) (outS s o k)) ∧ Hid (Own intE (fun _ => False) w2.heap.size 3 wr (.slice (some ⟨w2.heap.size + 1, 0, none⟩) s.length s.length) (plcK s.length o k)) ∧ Hid (Below w2.heap.size w2 wr) ∧ Hid (w2.heap.size + 2 ≤ wr.heap.size)) (fun i _ => s.length - (intOf i).toNat)
      case atStart => exact ⟨0, Nat.zero_le _, rfl, HT0, HP0, Lib.hid Seq.way, Lib.hid (by simp)⟩
      case round =>
        obtain ⟨k, hk, rfl, hT, hP, hbr, hz2⟩ := hrel
        clear HT0 HP0
        by_cases hlt : k < s.length
        · have hko : k < o.length := by omega
          have hi := HO.out.lt _ (List.getElem_mem hko)
          have hst := Lib.hid (outS_set hol hko)
          have hpt := Lib.hid (plcK_succ (n := s.length) hko)
          have htb := Lib.hid (tabS_eq hi)
          obtain ⟨_, _, ee, -, -, -, -, x4⟩ := HOr.out.at hbr.out
          simp only [Value.slice.injEq] at ee
          obtain ⟨rfl, -, rfl⟩ := ee
          obtain ⟨b4, o4, e4, -, l4, d4, -⟩ := x4.int (k := k) (by rw [List.length_map]; exact hko)
          simp only [Option.some.injEq, Addr.mk.injEq, and_true] at e4
          obtain ⟨rfl, rfl⟩ := e4
          simp only [Nat.zero_add, List.getElem_map] at d4
          obtain ⟨i, hie⟩ : ∃ i, i = o[k] := ⟨_, rfl⟩
          simp only [← hie] at hi hst hpt htb d4
          have HSr := Lib.hid (HSW.out.at (below_step hbr.out B2.out))
          obtain ⟨_, _, ee, -, -, -, -, x5⟩ := HSr.out
          simp only [Value.slice.injEq, true_and] at ee
          obtain ⟨rfl, rfl⟩ := ee
          obtain ⟨b, off, ha, hc, la, lc, rfl, -, lb, e0, e1, hH, hA⟩ := x5.tab hi
          have hansN := Lib.hid (HG.out.nodup _ (List.getElem_mem hi))
          have hanl := HG.out.anl _ (List.getElem_mem hi)
          obtain ⟨x, hx⟩ : ∃ x, x = s[i] := ⟨_, rfl⟩
          rw [← hx] at e0 e1 hH hA htb hansN hanl
          have HH := Lib.hid hH
          have HA := Lib.hid hA
          have c0 := HRb.out _ hbr.out
          have cl := HRl.out _ hbr.out
          have hkI : (k : Int) < (s.length : Int) := by omega
          have hk0 : (0 : Int) ≤ (k : Int) := by omega
          have hkt : ((k : Int)).toNat = k := Int.toNat_natCast k
          have hiI : (i : Int) < (s.length : Int) := by omega
          have hi0 : (0 : Int) ≤ (i : Int) := by omega
          have hit : ((i : Int)).toNat = i := Int.toNat_natCast i
          have hSb := Lib.hid (fun (V : World) (h : Below wr.heap.size wr V) (b : Nat) (hb : S b ∧ b < w.heap.size) => (by have := h.size; have := hbr.out.size; have := HzW.out; omega : b < V.heap.size))
          obtain ⟨wz, rfl⟩ : ∃ wz, wz = wr := ⟨_, rfl⟩
          clear hie hx hH hA x4 x5
          go_upto_region 13 with fail
          have Hkeep := fun {Wk : World} (hW : Below wz.heap.size wz Wk) => Lib.hid (show Wk.cell? ⟨bs, 0, none⟩ = some (.slice (some ⟨b, off, none⟩) s.length ac) ∧ Wk.cell? ⟨b, off + i * 2, none⟩ = some (.slice ha x.call.length hc) ∧ Wk.cell? ⟨b, off + i * 2 + 1, none⟩ = some (.slice la x.ans.length lc) from ⟨(hW.cell (p := ⟨bs, 0, none⟩) cl).trans c0, (hW.cell (p := ⟨b, off + i * 2, none⟩) lb).trans e0, (hW.cell (p := ⟨b, off + i * 2 + 1, none⟩) lb).trans e1⟩)
          (try simp only [List.append_eq, List.cons_append, List.nil_append])
          refine wp_region_noPanic ?_
          refine wp_region_last (S := fun w' => w'.cell? ⟨bs, 0, none⟩ = some (.slice (some ⟨b, off, none⟩) s.length ac) ∧ w'.cell? ⟨b, off + i * 2, none⟩ = some (.slice ha x.call.length hc) ∧ w'.cell? ⟨b, off + i * 2 + 1, none⟩ = some (.slice la x.ans.length lc)) (by kernel_rfl) ?_ rfl ?_ (fun hHeld => ?_)
          · kernel_rfl
          · exact (Hkeep (Below.drew (Below.refl _ _))).out
          dsimp only [List.dropLast]
          refine wpAnyH_take1 (i := 0) (oi := _) (v := ?_) (by kernel_rfl) rfl (by kernel_rfl) (fun _ _ _ h => h) (Or.inl ⟨by rfl, ?_⟩) (by assumption) ?_
          rotate_left 1
          · intro w hSw; (try dsimp only at hSw); go_simp; (with_reducible rfl)
          (try simp only [Act.put, List.getElem_toArray, List.getElem_cons_zero, List.setIfInBounds_toArray, List.set_cons_zero, List.set_cons_succ])
          refine wpAnyH_take1 (i := 1) (oi := _) (v := ?_) (by kernel_rfl) rfl (by kernel_rfl) (fun _ _ _ h => h) (Or.inl ⟨by rfl, ?_⟩) (by assumption) ?_
          rotate_left 1
          · intro w hSw; (try dsimp only at hSw); go_simp; (with_reducible rfl)
          (try simp only [Act.put, List.getElem_toArray, List.getElem_cons_zero, List.getElem_cons_succ, List.setIfInBounds_toArray, List.set_cons_zero, List.set_cons_succ])
          refine wpAnyH_take1 (i := 2) (oi := _) (v := ?_) (by kernel_rfl) rfl (by kernel_rfl) (fun _ _ _ h => h) (Or.inl ⟨by rfl, ?_⟩) (by assumption) ?_
          rotate_left 1
          · intro w hSw; (try dsimp only at hSw); go_simp; (with_reducible rfl)
          (try simp only [Act.put, List.getElem_toArray, List.getElem_cons_zero, List.getElem_cons_succ, List.setIfInBounds_toArray, List.set_cons_zero, List.set_cons_succ])
          refine wpAnyH_take1 (i := 3) (oi := _) (v := ?_) (by kernel_rfl) rfl (by kernel_rfl) (fun _ _ _ h => h) (Or.inl ⟨by rfl, ?_⟩) (by assumption) ?_
          rotate_left 1
          · intro w hSw; (try dsimp only at hSw); go_simp; (with_reducible rfl)
          (try simp only [Act.put, List.getElem_toArray, List.getElem_cons_zero, List.getElem_cons_succ, List.setIfInBounds_toArray, List.set_cons_zero, List.set_cons_succ])
          refine wpAnyH_take1 (i := 4) (oi := _) (v := ?_) (by kernel_rfl) rfl (by kernel_rfl) (fun _ _ _ h => h) (Or.inl ⟨by rfl, ?_⟩) (by assumption) ?_
          rotate_left 1
          · intro w hSw; (try dsimp only at hSw); go_simp; (with_reducible rfl)
          (try simp only [Act.put, List.getElem_toArray, List.getElem_cons_zero, List.getElem_cons_succ, List.setIfInBounds_toArray, List.set_cons_zero, List.set_cons_succ])
          refine wpAnyH_take1 (i := 5) (oi := _) (v := ?_) (by kernel_rfl) rfl (by kernel_rfl) (fun _ _ _ h => h) (Or.inl ⟨by rfl, ?_⟩) (by assumption) ?_
          rotate_left 1
          · intro w hSw; (try dsimp only at hSw); go_simp; (with_reducible rfl)
          (try simp only [Act.put, List.getElem_toArray, List.getElem_cons_zero, List.getElem_cons_succ, List.setIfInBounds_toArray, List.set_cons_zero, List.set_cons_succ])
          refine wpAnyH_take1 (i := 6) (oi := _) (v := ?_) (by kernel_rfl) rfl (by kernel_rfl) (fun _ _ _ h => h) (Or.inl ⟨by rfl, ?_⟩) (by assumption) ?_
          rotate_left 1
          · intro w hSw; (try dsimp only at hSw); go_simp; (with_reducible rfl)
          (try simp only [Act.put, List.getElem_toArray, List.getElem_cons_zero, List.getElem_cons_succ, List.setIfInBounds_toArray, List.set_cons_zero, List.set_cons_succ])
          refine wpAnyH_take1 (i := 7) (oi := _) (v := ?_) (by kernel_rfl) rfl (by kernel_rfl) (fun _ _ _ h => h) (Or.inl ⟨by rfl, ?_⟩) (by assumption) ?_
          rotate_left 1
          · intro w hSw; (try dsimp only at hSw); go_simp; (with_reducible rfl)
          (try simp only [Act.put, List.getElem_toArray, List.getElem_cons_zero, List.getElem_cons_succ, List.setIfInBounds_toArray, List.set_cons_zero, List.set_cons_succ])
          refine wpAnyH_take1 (i := 8) (oi := _) (v := ?_) (by kernel_rfl) rfl (by kernel_rfl) (fun _ _ _ h => h) (Or.inl ⟨by rfl, ?_⟩) (by assumption) ?_
          rotate_left 1
          · intro w hSw; (try dsimp only at hSw); go_simp; (with_reducible rfl)
          (try simp only [Act.put, List.getElem_toArray, List.getElem_cons_zero, List.getElem_cons_succ, List.setIfInBounds_toArray, List.set_cons_zero, List.set_cons_succ])
          refine wpAnyH_take1 (i := 9) (oi := _) (v := ?_) (by kernel_rfl) rfl (by kernel_rfl) (fun _ _ _ h => h) (Or.inl ⟨by rfl, ?_⟩) (by assumption) ?_
          rotate_left 1
          · intro w hSw; (try dsimp only at hSw); go_simp; (with_reducible rfl)
          (try simp only [Act.put, List.getElem_toArray, List.getElem_cons_zero, List.getElem_cons_succ, List.setIfInBounds_toArray, List.set_cons_zero, List.set_cons_succ])
          refine wpAnyH_take1 (i := 10) (oi := _) (v := ?_) (by kernel_rfl) rfl (by kernel_rfl) (fun _ _ _ h => h) (Or.inl ⟨by rfl, ?_⟩) (by assumption) ?_
          rotate_left 1
          · intro w hSw; (try dsimp only at hSw); go_simp; (with_reducible rfl)
          (try simp only [Act.put, List.getElem_toArray, List.getElem_cons_zero, List.getElem_cons_succ, List.setIfInBounds_toArray, List.set_cons_zero, List.set_cons_succ])
          refine wpAnyH_take1 (i := 11) (oi := _) (v := ?_) (by kernel_rfl) rfl (by kernel_rfl) (fun _ _ _ h => h) (Or.inl ⟨by rfl, ?_⟩) (by assumption) ?_
          rotate_left 1
          · intro w hSw; (try dsimp only at hSw); go_simp; (with_reducible rfl)
          (try simp only [Act.put, List.getElem_toArray, List.getElem_cons_zero, List.getElem_cons_succ, List.setIfInBounds_toArray, List.set_cons_zero, List.set_cons_succ])
          refine wpAnyH_one (i := 12) (by kernel_rfl) rfl (by rfl) fun K hK => ?_
          go_simp
          refine ((valuesC_ret)).mono ?_
          rintro e y1 ⟨rfl, hy1, hq1, hl1⟩
          have HY1 := below_step hy1 (Seq.way : Below wz.heap.size wz _)
          have zy1 := HY1.size
          (try dsimp only)
          clear hHeld
          refine hK.out _ _ (Hkeep HY1).out fun hHeld => ?_
          clear hK K
          (try simp only [Act.put, List.getElem_toArray, List.getElem_cons_zero, List.getElem_cons_succ, List.setIfInBounds_toArray, List.set_cons_zero, List.set_cons_succ])
          simp only [World.size_drew] at hq1 hl1
          refine wpAnyH_one (i := 13) (by kernel_rfl) rfl (by rfl) fun K hK => ?_
          go_simp
          refine ((sortedC_spec hq1 hl1 (HA.out.at HY1) (hSb.out _ HY1) (by omega) hansN.out)).mono ?_
          rintro e y2 ⟨v2, rfl, hy2, hs2⟩
          have HY2 := below_step hy2 (Seq.way : Below wz.heap.size wz _)
          have zy2 := HY2.size
          (try dsimp only)
          clear hHeld
          refine hK.out _ _ (Hkeep HY2).out fun hHeld => ?_
          clear hK K
          (try simp only [Act.put, List.getElem_toArray, List.getElem_cons_zero, List.getElem_cons_succ, List.setIfInBounds_toArray, List.set_cons_zero, List.set_cons_succ])
          have HR2 := Lib.hid hs2
          obtain ⟨ra, rc, rfl, -⟩ := hs2.shape
          have hTy := Lib.hid (hT.out.move HY2)
          obtain ⟨u1, u2, o0, o1, f0, f1⟩ := hTy.out.tabCells (k := k) (by rw [outS_len hol hk]; exact hlt)
          clear hs2
          refine wpAnyH_take1 (i := 14) (oi := _) (v := ?_) (by kernel_rfl) rfl (by kernel_rfl) (fun _ _ _ h => h) (Or.inl ⟨by rfl, ?_⟩) (by assumption) ?_
          rotate_left 1
          · intro w hSw; (try dsimp only at hSw); go_simp; (with_reducible rfl)
          (try simp only [Act.put, List.getElem_toArray, List.getElem_cons_zero, List.getElem_cons_succ, List.setIfInBounds_toArray, List.set_cons_zero, List.set_cons_succ])
          refine wpAnyH_take1 (i := 15) (oi := _) (v := ?_) (by kernel_rfl) rfl (by kernel_rfl) (fun _ _ _ h => h) (Or.inl ⟨by rfl, ?_⟩) (by assumption) ?_
          rotate_left 1
          · intro w hSw; (try dsimp only at hSw); go_simp; (with_reducible rfl)
          (try simp only [Act.put, List.getElem_toArray, List.getElem_cons_zero, List.getElem_cons_succ, List.setIfInBounds_toArray, List.set_cons_zero, List.set_cons_succ])
          refine wpAnyH_done (by kernel_rfl) ?_ _
          refine (show Oper.wp _ _ _ _ _ _ from ?_)
          clear hHeld
          go_simp
          refine NoPanic.normal ?_
          clear Hkeep e0 e1 c0 cl d4 l4 hq1 hl1
          have zW := HzW.out
          have z2 := hz2.out
          obtain ⟨W3, hW3⟩ : ∃ W3, W3 = (y2.setCell ⟨w2.heap.size, k * 2, none⟩ (.slice ha x.call.length hc)).setCell ⟨w2.heap.size, k * 2 + 1, none⟩ (.slice ra (setL cmpT x.ans).length rc) := ⟨_, rfl⟩
          have hb3 : ∀ b, b ≠ w2.heap.size → W3.heap[b]? = y2.heap[b]? := fun b hb => by rw [hW3]; exact (Below.heap_setCell _ _ _ _ hb).trans (Below.heap_setCell _ _ _ _ hb)
          have hs3 : W3.heap.size = y2.heap.size := by rw [hW3]; simp [World.setCell]
          have HT3 := Lib.hid (show Own tabE (fun b => (S b ∧ b < w.heap.size) ∨ w2.heap.size + 1 < b) w2.heap.size 43 W3 (.slice (some ⟨w2.heap.size, 0, none⟩) s.length s.length) (outS s o (k + 1)) by
            rw [← hst.out, htb.out, hW3]
            refine hTy.out.setTab (by rw [outS_len hol hk]) (by rw [outS_len hol hk]; exact hlt) ((HH.out.at HY2).mono (fun b hb _ => ⟨.inl hb, by have := hb.2; omega⟩) fun _ _ _ => rfl) (HR2.out.seq (by have := setL_le (c := cmpT) x.ans; omega) fun b _ hb => ?_)
            rcases hb with hb | hb
            · exact ⟨.inl hb, by have := hb.2; omega⟩
            · exact ⟨.inr (by omega), by omega⟩)
          have HP3 := Lib.hid (own_intAt (hP.out.move HY2) (w' := W3) fun q hq => hb3 q (by
            have e9 : some (w2.heap.size + 1) = some q := hq
            simp only [Option.some.injEq] at e9
            omega))
          have B3 := Lib.hid (show Below w2.heap.size w2 W3 by rw [hW3]; exact ((below_step HY2 hbr.out).setCell (Nat.le_refl _) _).setCell (Nat.le_refl _) _)
          obtain ⟨q0, q1, q2⟩ := HP3.out.cellZ (k := i) (by rw [plcK_len]; exact hi)
          have HP4 := Lib.hid (show Own intE (fun _ => False) w2.heap.size 3 (W3.setCell ⟨w2.heap.size + 1, i, none⟩ (.int .i64 k)) (.slice (some ⟨w2.heap.size + 1, 0, none⟩) s.length s.length) (plcK s.length o (k + 1)) by
            rw [hpt.out]
            exact HP3.out.setZ (by rw [plcK_len]) (by rw [plcK_len]; exact hi) ⟨by omega, by omega⟩)
          have HT4 := Lib.hid (HT3.out.moveO (w' := W3.setCell ⟨w2.heap.size + 1, i, none⟩ (.int .i64 k)) (fun b _ hv => Below.heap_setCell _ _ _ _ (by
            have e9 : some w2.heap.size = some b := hv
            simp only [Option.some.injEq] at e9
            show b ≠ w2.heap.size + 1
            omega)) fun b _ h => Below.heap_setCell _ _ _ _ (by
            show b ≠ w2.heap.size + 1
            rcases h with h | h
            · have := h.2; omega
            · omega))
          have B4 := Lib.hid (B3.out.setCell (p := ⟨w2.heap.size + 1, i, none⟩) (Nat.le_succ _) (.int .i64 k))
          have hz4e : (W3.setCell ⟨w2.heap.size + 1, i, none⟩ (.int .i64 k)).heap.size = W3.heap.size := by simp [World.setCell]
          have hz4 := Lib.hid (show w2.heap.size + 2 ≤ (W3.setCell ⟨w2.heap.size + 1, i, none⟩ (.int .i64 k)).heap.size by omega)
          rw [← hW3]
          clear hz4e hW3 hb3 hs3 hTy o0 o1 f0 f1 HY1 HY2 zy1 zy2 hT hP hbr hz2 HT3 HP3 B3 z2 zW
          go_wp2_with fail
          go_roundw
          case rel => exact ⟨k + 1, hlt, by go_num, HT4, HP4, B4, hz4⟩
          case measure => simp [intOf]; omega
        · obtain rfl : k = s.length := by omega
          have hkI : ¬ (s.length : Int) < (s.length : Int) := by omega
          have hf1 := Lib.hid (show Seq tabE (Fr S w) wr (.slice (some ⟨w2.heap.size, 0, none⟩) s.length s.length) (sortTs s) by
            have h := hT.out
            rw [outS_all HO.out] at h
            have h1 := h.seq (T := Fr S w) (by rw [sort_len]; omega) fun b _ h => h.elim (fun h => h.elim (fun h => .inl h.1) fun h => .inr (by have := HzW.out; omega)) fun h => .inr (by have := HzW.out; omega)
            exact h1)
          have hf2 := Lib.hid (show Seq intE (Fr S w) wr (.slice (some ⟨w2.heap.size + 1, 0, none⟩) s.length s.length) (placesS s) by
            have h := hP.out
            rw [plcK_all HG.out HO.out] at h
            have h1 := h.seq (T := Fr S w) (by simp [placesS]; omega) fun b _ h => h.elim False.elim fun h => .inr (by have := HzW.out; omega)
            exact h1)
          go_wp2_with fail
          go_ret2
          exact ⟨_, _, rfl, below_step (below_step hbr.out B2.out) HBW.out, hf1.out, hf2.out⟩
end
end Go.Proofs.YtckkjjiaecnciaaGreat
