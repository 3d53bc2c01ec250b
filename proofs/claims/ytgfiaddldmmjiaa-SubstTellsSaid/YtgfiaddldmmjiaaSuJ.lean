/-
  Layer 2, the program: put (a range over the iterator), Apply.
-/
import Derived.Test.YtgfiaddldmmjiaaSuI
namespace Go.Proofs.Ytgfiaddldmmjiaa
open Go Go.RowKit Go.Shelf

attribute [local go_sem] Oper.semAt_some

set_option maxHeartbeats 1000000 in
theorem cells_in (F : Fence) (n : Nat) (h51 : F.fn 51) (hro : F.round = none) {B : Option Nat} {ta : Option Addr} {tl tc : Nat} (w : World) :
    CallsIn F n Try.prog 51 #[.map B, .slice ta tl tc] w fun e w' => e = .returned (.func (.func 59) #[] #[.pointer (some ⟨w.heap.size + 1, 0, none⟩), .pointer (some ⟨w.heap.size, 0, none⟩)]) ∧
      w' = (w.alloc (.cells #[.map B] 57)).alloc (.cells #[.slice ta tl tc] 23) := by
  refine callsIn_of_wp Try.func51 rfl h51 ?_ hro
  simp only [Try.ntmps51, List.size_toArray, List.length_cons, List.length_nil, Nat.reduceAdd, Nat.reduceSub, Array.replicate_succ, Array.replicate_zero, List.push_toArray, List.append_toArray, List.nil_append, List.cons_append]
  gi_wp2
  go_ret
  exact ⟨rfl, rfl⟩

theorem cells_stops (F : Fence) (n : Nat) (h59 : F.fn 59) (hro : F.round = none) (hn : 1 ≤ n) (Bt Bm n₀ : Nat) {s : List Bnd} {t : List Cell} (w : World) {tv mv : Value} (hBt : w.cell? ⟨Bt, 0, none⟩ = some tv) (hBm : w.cell? ⟨Bm, 0, none⟩ = some mv)
    (hBtl : Bt < w.heap.size) (hBl : Bm < w.heap.size) (hn₀ : n₀ ≤ w.heap.size) (hT : Seq cellE (fun b => b < n₀) w tv t) (hM : MapS (fun b => b < n₀) w mv s) :
    SeqStopsK F n Try.prog 59 #[.pointer (some ⟨Bt, 0, none⟩), .pointer (some ⟨Bm, 0, none⟩)] (fun x : FCell => #[cellV x.1]) (KpM n₀ Bm) (fun ys => valL ys = putT s t) (fun pre => valL pre <+: putT s t) (putT s t).length w :=
  fun l J Jx W hW hJ _ hY h0 =>
    cells1_in F n h59 hro hn l Bt Bm n₀ _ J Jx (Nat.le_refl _) hY W hJ ((hW.cell (p := ⟨Bt, 0, none⟩) hBtl).trans hBt) ((hW.cell (p := ⟨Bm, 0, none⟩) hBl).trans hBm) (Nat.lt_of_lt_of_le hBl hW.size) (Nat.le_trans hn₀ hW.size)
      (hT.below hW fun _ _ h => h) (hM.at hW) h0

section
variable {F : Fence} {nF : Nat} {P : Program} {ops : Array Oper} {rest : List Oper} {o : Oper} {a : Act} {Q : Exit → Act → World → Prop}
/-- An append of a cell, inside a fence. -/
theorem wpListIn_app_cellS {S : Nat → Prop} {w : World} (hgd : o.guard = none) (s x : Operand) (t : TypeId)
    (ho : o.op = .call { callee := .builtin .append, args := #[s, x], argTypes := #[t, t] })
    {base : Nat} {e : TypeId} (ht : P.underlying t = some (.slice e)) (hi : (P.info? e).map (fun i => (i.zero, i.size, i.bytes)) = some (some (.agg #[.int .i64 0, .string ⟨#[]⟩, .int .i64 0]), 3, 32))
    {v : Value} {xs : List Cell} (hs : a.eval s = v) (hown : Own cellE S base e w v xs) {B c : Nat} (hx : a.eval x = .slice (some ⟨B, 0, none⟩) 1 c)
    {y : Cell} (hy : CellW y)
    (hc0 : w.cell? ⟨B, 0, none⟩ = some (.int .i64 y.kind)) (hc1 : w.cell? ⟨B, 1, none⟩ = some (.string y.name)) (hc2 : w.cell? ⟨B, 2, none⟩ = some (.int .i64 y.n)) (hbytes : xs.length ≤ 1000000000000) (hbase : base ≤ w.heap.size)
    (h : ∀ ao cap w', Own cellE S base e w' (.slice ao (xs.length + 1) cap) (xs ++ [y]) → w.grownBy w' v.ownBlock → wpListIn F nF P ops Q rest (a.put o.dst (.slice ao (xs.length + 1) cap)) w') : wpListIn F nF P ops Q (o :: rest) a w := by
  obtain ⟨i, hi1, hz0, hz1, hz2⟩ := info_parts hi
  obtain ⟨vs, hv1, hv2⟩ := hown
  have hR : cellE.R (fun _ => False) w y [.int .i64 y.kind, .string y.name, .int .i64 y.n] := ⟨rfl, hy⟩
  refine wpListIn_append_own_at w hgd s x t ho base e i _ 3 32 ht hi1 hz0 hz1 hz2 rfl (by decide) v xs.length vs hs (ownsRow_at hv1 fun _ _ => rfl) ⟨B, 0, none⟩ 1 c [.int .i64 y.kind, .string y.name, .int .i64 y.n] hx rfl ?_ (cellE.one hR) (by simp only [maxLen]; omega) (by omega) hbase ?_
  · intro j u hj
    have hj' : j < 3 := (List.getElem?_eq_some_iff.1 hj).1
    rcases (show j = 0 ∨ j = 1 ∨ j = 2 by omega) with rfl | rfl | rfl
    · simp at hj; subst hj; exact hc0
    · simp at hj; subst hj; exact hc1
    · simp at hj; subst hj; exact hc2
  · intro v' w' hown' hgrow _ hat
    obtain ⟨ao, cap, rfl, -, -⟩ := own_shape hown'
    refine h ao cap w' (own_appendW (Sy := fun _ => False) hv1 hv2 (fun _ h => h.elim) ?_ (by have h9 := hown'; exact h9) hgrow hat) hgrow
    intro k y' hk
    obtain rfl : k = 0 := by have := (List.getElem?_eq_some_iff.1 hk).1; simp at this; omega
    simp at hk; subst hk
    exact ⟨_, hR, by simp⟩
end

/-- The own row is cells. -/
theorem Own.cells {α : Type} {E : Elt α} {S : Nat → Prop} {base : Nat} {e : TypeId} {w : World} {v : Value} {xs : List α} (h : Own E S base e w v xs) {j : Nat} {o : Obj} (hj : v.ownBlock = some j) (ho : w.heap[j]? = some o) : o.isCells = true := by
  obtain ⟨vs, h1, _⟩ := h
  rcases h1.2 with ⟨rfl, _⟩ | ⟨g, cap, cur, rfl, _, hgb, _⟩
  · simp [Value.ownBlock] at hj
  · obtain rfl : g = j := by simpa [Value.ownBlock] using hj
    rw [hgb] at ho; cases ho; rfl
theorem own_turn {S : Nat → Prop} {base : Nat} {e : TypeId} {W W' : World} {v : Value} {xs : List Cell} {row : Option Nat} (h : Own cellE S base e W v xs) (hg : W.grownBy W' row) (hr : ∀ r, row = some r → ∃ o : Obj, W.heap[r]? = some o ∧ o.isCells = false) : Own cellE S base e W' v xs := by
  refine own_cellS (S := fun _ => False) ((own_cellS (T := fun _ => False) h).moveO (fun b hb hv => hg.block b hb fun e => ?_) fun _ _ h => h.elim)
  obtain ⟨o, ho, hc⟩ := hr b e.symm
  have := h.cells hv ho
  rw [hc] at this; cases this

/-- What the loop holds between two rounds. -/
structure PutI (w : World) (pre : List FCell) (W : World) : Prop where
  out : ∃ v, Boxed W (w.heap.size + 1 + 1) 23 v ∧ Own cellE (fun _ => False) (w.heap.size + 5) 41 W v (valL pre)
  len : (valL pre).length ≤ 200
  b0 : Boxed W w.heap.size 23 (.slice none 0 0)
  b1 : Boxed W (w.heap.size + 1) 4 (.bool false)
  bel : Below w.heap.size w W
  sz : w.heap.size + 5 ≤ W.heap.size
/-- .. and where it has left. -/
structure PutX (w : World) (c : Code) (pre : List FCell) (W : World) : Prop where
  ret : c = .ret
  len : (valL pre).length = 201
  b0 : Boxed W w.heap.size 23 (.slice none 0 0)
  b1 : Boxed W (w.heap.size + 1) 4 (.bool false)
  bel : Below w.heap.size w W
theorem boxed_turn {W W' : World} {B : Nat} {t : TypeId} {v : Value} {row : Option Nat} (h : Boxed W B t v) (hg : W.grownBy W' row) (hr : ∀ r, row = some r → ∃ o : Obj, W.heap[r]? = some o ∧ o.isCells = false) : Boxed W' B t v :=
  h.kept hg fun e' => by obtain ⟨o, ho, hc⟩ := hr B e'.symm; rw [show W.heap[B]? = _ from h] at ho; cases ho; cases hc
theorem putI_turn {w : World} {B : Nat} (hB : w.heap.size ≤ B) : OwnFrom B (PutI w) := by
  rintro pre W W' row ⟨⟨v, h1, h2⟩, h3, h4, h5, h6, h7⟩ hg hr
  have hr' := fun r e => (hr r e).2
  exact ⟨⟨v, boxed_turn h1 hg hr', own_turn h2 hg hr'⟩, h3, boxed_turn h4 hg hr', boxed_turn h5 hg hr', h6.grown hg h6.size (fun k e => Nat.le_trans hB (hr k e).1), Nat.le_trans h7 hg.size⟩
theorem putX_turn {w : World} {B : Nat} (hB : w.heap.size ≤ B) (c : Code) : OwnFrom B (PutX w c) := by
  rintro pre W W' row ⟨h1, h3, h4, h5, h6⟩ hg hr
  have hr' := fun r e => (hr r e).2
  exact ⟨h1, h3, boxed_turn h4 hg hr', boxed_turn h5 hg hr', h6.grown hg h6.size (fun k e => Nat.le_trans hB (hr k e).1)⟩

set_option maxRecDepth 100000 in
set_option maxHeartbeats 4000000 in
theorem putP_in (F : Fence) (n : Nat) (h38 : F.fn 38) (h51 : F.fn 51) (h59 : F.fn 59) (hro : F.round = none) (hn : 3 ≤ n) {S T : Nat → Prop} {w : World} {v u : Value} {s : List Bnd} {t : List Cell} (hs : MapS S w v s) (ht : Seq cellE T w u t) :
    CallsIn F n Try.prog 38 #[v, u] w (RetL cellE (fun b => w.heap.size ≤ b) (appO s t) w) := by
  have h1 : 1 ≤ n := by omega
  have Hs := Lib.hid (hs.mono (T := fun b => b < w.heap.size) (fun _ _ h => h) fun _ _ _ => rfl)
  have Ht := Lib.hid (ht.mono (T := fun b => b < w.heap.size) (fun _ _ h => h) fun _ _ _ => rfl)
  obtain ⟨B, nB, D, rfl, -⟩ := hs
  obtain ⟨ta, tc, rfl, -⟩ := ht
  refine callsIn_of_wp_marks Try.func38 rfl h38 ?_ hro
  simp only [Try.ntmps38, List.size_toArray, List.length_cons, List.length_nil, Nat.reduceAdd, Nat.reduceSub, Array.replicate_succ, Array.replicate_zero, List.push_toArray, List.append_toArray, List.nil_append, List.cons_append]
  gi_wp2_with (gi_at_call 51; refine (cells_in F (n - 1) h51 hro _).mono ?_; rintro e w' ⟨rfl, rfl⟩)
  obtain ⟨W0, hW0⟩ : ∃ W0, ((((w.alloc (.cells #[.slice none 0 0] 23)).alloc (.cells #[.bool false] 4)).alloc (.cells #[.slice none 0 0] 23)).alloc (.cells #[.map (some B)] 57)).alloc (.cells #[.slice ta t.length tc] 23) = W0 := ⟨_, rfl⟩
  have b0 : Boxed W0 w.heap.size 23 (.slice none 0 0) := by rw [← hW0]; exact ((((Boxed.new w _ _).alloc _).alloc _).alloc _).alloc _
  have b1 : Boxed W0 (w.heap.size + 1) 4 (.bool false) := by
    rw [← hW0]
    have := Boxed.new (w.alloc (.cells #[.slice none 0 0] 23)) 4 (.bool false)
    rw [World.size_alloc] at this
    exact ((this.alloc _).alloc _).alloc _
  have b2 : Boxed W0 (w.heap.size + 1 + 1) 23 (.slice none 0 0) := by
    rw [← hW0]
    have := Boxed.new ((w.alloc (.cells #[.slice none 0 0] 23)).alloc (.cells #[.bool false] 4)) 23 (.slice none 0 0)
    simp only [World.size_alloc] at this
    exact (this.alloc _).alloc _
  have b3 : Boxed W0 (w.heap.size + 1 + 1 + 1) 57 (.map (some B)) := by
    rw [← hW0]
    have := Boxed.new (((w.alloc (.cells #[.slice none 0 0] 23)).alloc (.cells #[.bool false] 4)).alloc (.cells #[.slice none 0 0] 23)) 57 (.map (some B))
    simp only [World.size_alloc] at this
    exact this.alloc _
  have b4 : Boxed W0 (w.heap.size + 1 + 1 + 1 + 1) 23 (.slice ta t.length tc) := by
    rw [← hW0]
    have := Boxed.new ((((w.alloc (.cells #[.slice none 0 0] 23)).alloc (.cells #[.bool false] 4)).alloc (.cells #[.slice none 0 0] 23)).alloc (.cells #[.map (some B)] 57)) 23 (.slice ta t.length tc)
    simp only [World.size_alloc] at this
    exact this
  have hB0 : Below w.heap.size w W0 := by rw [← hW0]; exact Seq.way
  have hsz : W0.heap.size = w.heap.size + 5 := by rw [← hW0]; simp
  rw [hW0]
  clear hW0
  refine wpIn_rangeFunc_ownH hro h1 (gf := 59) (lb := #[.pointer (some ⟨w.heap.size + 1 + 1 + 1 + 1, 0, none⟩), .pointer (some ⟨w.heap.size + 1 + 1 + 1, 0, none⟩)]) rfl h59 (enters_of Try.func59 (by kernel_rfl) rfl)
    (cells_stops F (n - 1) h59 hro (by omega) (w.heap.size + 1 + 1 + 1 + 1) (w.heap.size + 1 + 1 + 1) w.heap.size W0 b4.cell b3.cell (by omega) (by omega) (by omega) (Ht.out.below hB0 fun _ _ h => h) (Hs.out.at hB0))
    KpM.trans (fun W l o o' hl h hc hw => ⟨belowK_b (by omega) W l o o' hl h hc hw, World.putObj_heap_other (by omega)⟩) (Below.refl _ _) (fun _ => rfl)
    (PutI w) (PutX w) (putI_turn (by omega)) (fun c => putX_turn (by omega) c)
    ⟨⟨_, b2, Own.nil _ _ _ _ _⟩, by simp [valL], b0, b1, hB0, by omega⟩
    (fun x a' W => ∃ Bx, w.heap.size + 1 + 1 + 1 < Bx ∧ W.heap[Bx]? = some (.cells #[.int .i64 x.1.kind, .string x.1.name, .int .i64 x.1.n] 41 (0, 0)) ∧ a' = { tmps := #[.map (some B), .slice ta t.length tc, undef, undef, .pointer (some ⟨w.heap.size, 0, none⟩), .pointer (some ⟨w.heap.size + 1, 0, none⟩), .pointer (some ⟨w.heap.size + 1 + 1, 0, none⟩), .pointer (some ⟨Bx, 0, none⟩), .map (some B), .slice ta t.length tc, .func (.func 59) #[] #[.pointer (some ⟨w.heap.size + 1 + 1 + 1 + 1, 0, none⟩), .pointer (some ⟨w.heap.size + 1 + 1 + 1, 0, none⟩)], cellV x.1, undef, undef, undef, undef, undef, undef, undef, undef], defers := [] })
    (fun x a' _ X Y row hs hg hr => by obtain ⟨Bx, h1, h2, h3⟩ := hs; exact ⟨Bx, h1, (hg.block Bx (Array.getElem?_eq_some_iff.1 h2).1 (fun e => by obtain ⟨o, ho, hc⟩ := (hr Bx e.symm).2; rw [h2] at ho; cases ho; cases hc)).trans h2, h3⟩)
    ?assign ?body ?done ?stop
  case assign =>
    rintro l pre x W K hI hK
    dsimp only [cellV] at hK ⊢
    gi_wp2
    refine hK _ _ ((KeepsOthers.alloc _ _).from _) ⟨(Below.refl _ W).alloc hI.bel.size _, Below.heap_alloc _ _ _ (by have := hI.sz; omega)⟩ ((putI_turn (B := W0.heap.size) (by omega)).alloc _ hI) ⟨W.heap.size, by have := hI.sz; omega, ?_, rfl⟩
    exact World.alloc_heap_new W _
  case body =>
    rintro l pre x a' W hl ⟨r, hr⟩ ⟨⟨v, bv, hown⟩, hlen, c0, c1, hB, hsW⟩ ⟨Bx, hBx, bX, rfl⟩ hlt
    have bXr : Row 41 W Bx [.int .i64 x.1.kind, .string x.1.name, .int .i64 x.1.n] := bX
    have x0 := bXr.cell (j := 0) (by simp)
    have x1 := bXr.cell (j := 1) (by simp)
    have x2 := bXr.cell (j := 2) (by simp)
    simp only [List.getElem_cons_zero, List.getElem_cons_succ] at x0 x1 x2
    obtain ⟨oa, oc, rfl, -⟩ := hown.shape
    have cv := bv.cell
    have cc0 := c0.cell
    have cc1 := c1.cell
    have hne := Lib.hid (fun j (hj : j < w.heap.size + 5) => show some j ≠ (Value.slice oa (valL pre).length oc).ownBlock from fun e => by have := (hown.blk e.symm).1; omega)
    have Hown := Lib.hid hown
    have HB := Lib.hid hB
    have C0 := Lib.hid c0
    have C1 := Lib.hid c1
    have BV := Lib.hid bv
    have f0 := c0.frozen
    have f1 := c1.frozen
    have hsn := Lib.hid (valL_snoc pre x)
    have HW := Lib.hid x.2
    obtain ⟨y, hy⟩ : ∃ y, y = x.1 := ⟨_, rfl⟩
    rw [← hy] at x0 x1 x2 hsn HW ⊢
    obtain ⟨L, hL⟩ : ∃ L, L = valL pre := ⟨_, rfl⟩
    rw [← hL] at hlen cv Hown hne hsn BV
    clear hown hB c0 c1 bX bXr hy hL bv hr
    dsimp only [cellV]
    by_cases h200 : L.length = 200
    · have h200' : (L.length : Int) = 200 := by omega
      gi_wp2
      refine ⟨((KeepsOthers.setCell _ _ _).trans (KeepsOthers.setCell _ _ _)).from _, ⟨rfl, by rw [hsn.out, List.length_append, h200]; rfl, ?_, ?_, ?_⟩⟩
      · exact (C0.out.set _).other (by omega) _
      · exact (C1.out.other (by omega) _).set _
      · exact (HB.out.setCell (p := ⟨w.heap.size, 0, none⟩) (Nat.le_refl _) _).setCell (p := ⟨w.heap.size + 1, 0, none⟩) (by simp) _
    · have h200' : ¬ (L.length : Int) = 200 := by omega
      have hlt2 : L.length < 200 := by omega
      gi_wp2_with (gi_at_builtin; refine wpListIn_app_cellS rfl _ _ 23 rfl Try.underlying23 infoCellS rfl (Hown.out.move Seq.way) rfl HW.out (by go_simp) (by go_simp) (by go_simp) (by omega) (by simp; omega) ?_; intro ao cap w1 hown1 hgrow1; have H1 := Lib.hid hown1; have G1 := Lib.hid hgrow1; have bv1 := Lib.hid ((BV.out.alloc _).kept hgrow1 (hne.out _ (by omega))); have cv1 := bv1.out.cell; have fv1 := bv1.out.frozen; clear hown1 hgrow1)
      have hbelow : Below w.heap.size W (w1.setCell ⟨w.heap.size + 1 + 1, 0, none⟩ (.slice ao (L.length + 1) cap)) := by
        refine (((Below.refl w.heap.size W).alloc (by omega) _).grown G1.out (by simp; omega) (fun k e => ?_)).setCell (p := ⟨w.heap.size + 1 + 1, 0, none⟩) (by simp; omega) _
        have := (Hown.out.blk e).1; omega
      have hat : ∀ b, b < w.heap.size + 5 → b ≠ w.heap.size + 1 + 1 → (w1.setCell ⟨w.heap.size + 1 + 1, 0, none⟩ (.slice ao (L.length + 1) cap)).heap[b]? = W.heap[b]? := fun b hb hne' => by
        rw [Below.heap_setCell _ _ _ _ hne', G1.out.block b (by simp; omega) (hne.out b hb), Below.heap_alloc _ _ _ (by omega)]
      refine ⟨((KeepsOthers.alloc W _).trans ((KeepsOthers.of_grownBy G1.out fun j o h1 h2 => (Hown.out.move (Seq.way : Below W.heap.size W (W.alloc _))).cells h1 h2).trans (KeepsOthers.setCell _ _ _))).from _, ⟨hbelow, hat _ (by omega) (by omega)⟩, ?_⟩
      refine ⟨⟨_, bv1.out.set _, ?_⟩, by rw [hsn.out, List.length_append, List.length_singleton]; omega, (hat _ (by omega) (by omega)).trans C0.out, (hat _ (by omega) (by omega)).trans C1.out, HB.out.trans hbelow, ?_⟩
      · rw [hsn.out]
        refine own_cellS (S := fun _ => False) ((own_cellS (T := fun _ => False) H1.out).moveO (fun b hb hv => Below.heap_setCell _ _ _ _ fun e => ?_) fun _ _ h => h.elim)
        have := (H1.out.blk hv).1
        have e' : b = w.heap.size + 1 + 1 := e
        omega
      · have := G1.out.size
        simp at this ⊢
        omega
  case done =>
    rintro D ys W hD hys ⟨⟨v, bv, hown⟩, hlen, c0, c1, hB, hsW⟩ hK
    rw [hys] at hown hlen
    obtain ⟨oa, oc, rfl, -⟩ := hown.shape
    have cv := bv.cell
    have cc0 := c0.cell
    have cc1 := c1.cell
    have f0 := c0.frozen
    have f1 := c1.frozen
    have Hown := Lib.hid hown
    have ho := Lib.hid (show appO s t = some (putT s t) from if_pos hlen)
    have HB := Lib.hid hB
    have HK := Lib.hid hK
    have C0 := Lib.hid c0
    have C1 := Lib.hid c1
    obtain ⟨L, hL⟩ : ∃ L, L = putT s t := ⟨_, rfl⟩
    rw [← hL] at hlen cv Hown ho
    clear hown hB hK c0 c1 hL bv hys
    gi_wp2
    have e0 := Lib.hid (show Boxed ((W.setCell ⟨w.heap.size, 0, none⟩ (.slice oa L.length oc)).setCell ⟨w.heap.size + 1, 0, none⟩ (.bool true)) w.heap.size 23 (.slice oa L.length oc) from (C0.out.set _).other (by omega) _)
    have e1 := Lib.hid (show Boxed ((W.setCell ⟨w.heap.size, 0, none⟩ (.slice oa L.length oc)).setCell ⟨w.heap.size + 1, 0, none⟩ (.bool true)) (w.heap.size + 1) 4 (.bool true) from (C1.out.other (by omega) _).set _)
    have hK2 := ((KeepsOthers.setCell W ⟨w.heap.size, 0, none⟩ (.slice oa L.length oc)).trans (KeepsOthers.setCell _ ⟨w.heap.size + 1, 0, none⟩ (.bool true))).same D _ HK.out rfl
    have hb2 : Below w.heap.size w ((W.setCell ⟨w.heap.size, 0, none⟩ (.slice oa L.length oc)).setCell ⟨w.heap.size + 1, 0, none⟩ (.bool true)) := (HB.out.setCell (p := ⟨w.heap.size, 0, none⟩) (Nat.le_refl _) _).setCell (p := ⟨w.heap.size + 1, 0, none⟩) (by simp) _
    have ho2 : Own cellE (fun _ => False) (w.heap.size + 5) 41 ((W.setCell ⟨w.heap.size, 0, none⟩ (.slice oa L.length oc)).setCell ⟨w.heap.size + 1, 0, none⟩ (.bool true)) (.slice oa L.length oc) L :=
      Hown.out.moveO (fun b hb hv => by
        have := (Hown.out.blk hv).1
        rw [Below.heap_setCell _ _ _ _ (fun e => by have e' : b = w.heap.size + 1 := e; omega), Below.heap_setCell _ _ _ _ (fun e => by have e' : b = w.heap.size := e; omega)]) fun _ _ h => h.elim
    obtain ⟨W2, hW2⟩ : ∃ W2, W2 = ((W.setCell ⟨w.heap.size, 0, none⟩ (.slice oa L.length oc)).setCell ⟨w.heap.size + 1, 0, none⟩ (.bool true)) := ⟨_, rfl⟩
    rw [← hW2] at e0 e1 hK2 hb2 ho2 ⊢
    have hz2 := hb2.size
    refine ⟨by simp, .inl ⟨_, _, rfl, run_takeDeferred hK2, ?_⟩⟩
    have hg := grownBy_putObj' W2 D (.deferred none)
    have hr : ∀ r, some D = some r → ∃ o : Obj, W2.heap[r]? = some o ∧ o.isCells = false := fun r e => by cases e; exact ⟨_, hK2, rfl⟩
    have k0 := (boxed_turn e0.out hg hr).cell
    have k1 := (boxed_turn e1.out hg hr).cell
    refine ⟨.tuple #[.slice oa L.length oc, .bool true], ?_, ?_⟩
    · simp [results, Try.f38, go_sem, k0, k1]
    · rw [ho.out]
      exact ⟨_, rfl, hb2.grown hg hb2.size (fun k e => by cases e; omega), (own_turn ho2 hg hr).seqB (by omega) fun b hb h => h.elim False.elim fun h => by have := (ho2.blk h).1; omega⟩
  case stop =>
    rintro D c pre W hD hpre ⟨rfl, hlen, c0, c1, hB⟩ hK
    have cc0 := c0.cell
    have cc1 := c1.cell
    have ho := Lib.hid (show appO s t = none from if_neg (by have := hpre.length_le; omega))
    have HB := Lib.hid hB
    have HK := Lib.hid hK
    have C0 := Lib.hid c0
    have C1 := Lib.hid c1
    clear hB hK c0 c1 hpre
    gi_wp2
    refine ⟨by simp, .inl ⟨_, _, rfl, run_takeDeferred HK.out, ?_⟩⟩
    have hg := grownBy_putObj' W D (.deferred none)
    have hr : ∀ r, some D = some r → ∃ o : Obj, W.heap[r]? = some o ∧ o.isCells = false := fun r e => by cases e; exact ⟨_, HK.out, rfl⟩
    have k0 := (boxed_turn C0.out hg hr).cell
    have k1 := (boxed_turn C1.out hg hr).cell
    have hz2 := HB.out.size
    refine ⟨.tuple #[.slice none 0 0, .bool false], ?_, ?_⟩
    · simp [results, Try.f38, go_sem, k0, k1]
    · rw [ho.out]
      exact ⟨_, rfl, HB.out.grown hg HB.out.size (fun k e => by cases e; omega), Seq.nil _ _ _⟩

theorem putP_spec {S T : Nat → Prop} {w : World} {v u : Value} {s : List Bnd} {t : List Cell} (hs : MapS S w v s) (ht : Seq cellE T w u t) :
    Calls Try.prog 38 #[v, u] w (RetL cellE (fun b => w.heap.size ≤ b) (appO s t) w) :=
  callsIn_wide.1 (putP_in Fence.wide 10 trivial trivial trivial rfl (by omega) hs ht)

set_option maxHeartbeats 1600000 in
theorem ApplyP_spec {S T : Nat → Prop} {w : World} {v u : Value} {s : List Bnd} {t : List Cell} (hs : Seq bindE S w v s) (hne : VarsNe s) (ht : Seq cellE T w u t) :
    Calls Try.prog 17 #[v, u] w (RetL cellE (fun b => w.heap.size ≤ b) (appO s t) w) := by
  have Hs := Lib.hid hs
  have Ht := Lib.hid ht
  have Hne := Lib.hid hne
  obtain ⟨sa, sc, rfl, -⟩ := hs
  obtain ⟨ta, tc, rfl, -⟩ := ht
  clear hne
  go_enter Try.func17, Try.ntmps17
  go_wp2_with fail
  refine (table_spec Hs.out Hne.out).mono ?_
  rintro e w1 ⟨v1, rfl, hb1, hm1⟩
  have HM := Lib.hid hm1
  obtain ⟨B, nB, D, rfl, -⟩ := hm1
  go_wp2_with fail
  refine (putP_spec HM.out (Ht.out.at hb1)).mono ?_
  rintro e w2 ⟨v2, rfl, hb2, hs2⟩
  have HS := Lib.hid (hs2.mono (T := fun b => w.heap.size ≤ b) (fun b h _ => Nat.le_trans hb1.size h) fun _ _ _ => rfl)
  obtain ⟨oa, oc, rfl⟩ := hs2.shape
  clear hs2
  go_wp2_with fail
  go_ret2
  exact ⟨_, rfl, below_step hb2 hb1, HS.out⟩
end Go.Proofs.Ytgfiaddldmmjiaa
