/-
  slices.Values, slices.AppendSeq, slices.Collect, slices.Sorted, at ints.
  slices.Values, slices.Collect, slices.Sort, slices.Sorted, at ints: their contracts.
-/
import Derived.Test.YtckkjjiaecnciaaGreatMtB
import Derived.Test.YtckkjjiaecnciaaGreatMtS
import Derived.RangeFuncNested
import Derived.RangeFuncBound
import Derived.RangeFuncCalls
import Derived.RangeFuncLeaves
import Derived.RangeFuncBox
import Derived.Shelf.Abstract
import Derived.Shelf.RegionOpen
import Derived.OwnWalkIn
import Derived.TacticsInMore
import Derived.LoopNIn
import Derived.LoopIn
import Derived.Maps.OwnIn
namespace Go.Proofs.YtckkjjiaecnciaaGreat
section
open Go Go.RowKit Go.Shelf

attribute [local go_sem] Oper.semAt_some

/-- An int as any call hands it over. -/
abbrev FInt := { n : Int // IntOK n }
def valI (l : List FInt) : List Int := l.map Subtype.val
theorem valI_snoc (l : List FInt) (x : FInt) : valI (l ++ [x]) = valI l ++ [x.1] := by simp [valI]
theorem valI_len (l : List FInt) : (valI l).length = l.length := by simp [valI]

set_option maxRecDepth 100000 in
set_option maxHeartbeats 2000000 in
theorem valI1_in (F : Fence) (n : Nat) (hf : F.fn 111) (hro : F.round = none) (hn : 1 ≤ n) (l Bs n₀ N : Nat) {t : List Int} (J Jx : List FInt → World → Prop) (hN : t.length ≤ N)
    (hY : ∀ pre x W, J pre W → pre.length < N → YieldAt F (n - 1) Tryz.prog l #[.int .i64 x.1] W fun e W' =>
      (e = .returned (.bool true) ∧ J (pre ++ [x]) W' ∧ Below n₀ W W') ∨ (e = .returned (.bool false) ∧ Jx (pre ++ [x]) W'))
    (W : World) {tv : Value} (hBs : W.cell? ⟨Bs, 0, none⟩ = some tv) (hT : Seq intE (fun b => b < n₀) W tv t) (h0 : J [] W) :
    CallsIn F n Tryz.prog 111 #[.func (.yield l) #[] #[], .pointer (some ⟨Bs, 0, none⟩)] W fun e W' => (∃ v, e = .returned v) ∧
      ((∃ ys, valI ys = t ∧ J ys W') ∨ (∃ pre, valI pre <+: t ∧ Jx pre W')) := by
  obtain ⟨ta, tc, rfl, -, -, htl, -, t5⟩ := hT
  have htf := fun {w' : World} (h : Below n₀ W w') => Lib.hid (t5.below h fun _ h _ => h : SeqAt intE (fun b => b < n₀) w' ta t)
  refine callsIn_of_wp Tryz.func111 rfl hf ?_ hro
  simp only [Tryz.ntmps111, List.size_toArray, List.length_cons, List.length_nil, Nat.reduceAdd, Nat.reduceSub, Array.replicate_succ, Array.replicate_zero, List.push_toArray, List.append_toArray, List.nil_append, List.cons_append]
  clear t5
  gi_wp2
  gi_loopw [7] (fun i wr => ∃ (k : Nat) (pre : List FInt), k ≤ t.length ∧ i = .int .i64 k ∧ Hid (valI pre = t.take k) ∧ J pre wr ∧ Hid (Below n₀ W wr)) (fun i _ => t.length - (intOf i).toNat)
  case atStart => exact ⟨0, [], Nat.zero_le _, rfl, Lib.hid rfl, h0, Lib.hid (Below.refl _ _)⟩
  case round =>
    obtain ⟨k, pre, hk, rfl, hpre, hJs, hK⟩ := hrel
    obtain ⟨wx, rfl⟩ : ∃ wx, wx = wr := ⟨_, rfl⟩
    by_cases hlt : k < t.length
    · obtain ⟨b, off, rfl, hbn, hb, c0, ok0⟩ := (htf hK.out).out.int hlt
      have hsn := Lib.hid (show t.take (k + 1) = t.take k ++ [t[k]] from List.take_succ_eq_append_getElem hlt)
      have hpx := Lib.hid (show t.take (k + 1) <+: t from List.take_prefix _ _)
      have hql := Lib.hid (show pre.length < N from by rw [← valI_len, hpre.out, List.length_take]; omega)
      obtain ⟨c, hc⟩ : ∃ c, c = t[k] := ⟨_, rfl⟩
      rw [← hc] at c0 ok0 hsn
      clear hc htf
      have hkl : (k : Int) < (t.length : Int) := by omega
      have hk0 : (0 : Int) ≤ (k : Int) := by omega
      obtain ⟨fn, tmps, assign, body, hy, hR⟩ := hY pre ⟨c, ok0⟩ wx hJs hql.out
      gi_wp2
      refine hR.mono ?_
      rintro e W3 (⟨rfl, hJ3, hk3⟩ | ⟨rfl, hJx3⟩)
      · have H3 := Lib.hid hJ3
        have HK3 := Lib.hid (hK.out.trans hk3)
        clear hJ3 hk3 hR hy
        gi_wp2
        go_roundw
        case rel => exact ⟨k + 1, _, hlt, by go_num, Lib.hid (by rw [valI_snoc, hpre.out, hsn.out]), H3.out, HK3⟩
        case measure => simp [intOf]; omega
      · have HX := Lib.hid hJx3
        clear hJx3 hR hy
        gi_wp2
        refine bodyPost_ret (results_none rfl _ _ _) rfl ?_
        exact ⟨⟨_, rfl⟩, .inr ⟨_, by rw [valI_snoc, hpre.out, ← hsn.out]; exact hpx.out, HX.out⟩⟩
    · obtain rfl : k = t.length := by omega
      rw [List.take_length] at hpre
      gi_wp2
      go_end0
      exact ⟨⟨_, rfl⟩, .inl ⟨pre, hpre.out, hJs⟩⟩

theorem valI_stops (F : Fence) (n : Nat) (hf : F.fn 111) (hro : F.round = none) (hn : 1 ≤ n) (Bs n₀ : Nat) {t : List Int} (w : World) {tv : Value} (hBs : w.cell? ⟨Bs, 0, none⟩ = some tv)
    (hBl : Bs < w.heap.size) (hn₀ : n₀ ≤ w.heap.size) (hT : Seq intE (fun b => b < n₀) w tv t) :
    SeqStopsK F n Tryz.prog 111 #[.pointer (some ⟨Bs, 0, none⟩)] (fun x : FInt => #[.int .i64 x.1]) (Below n₀) (fun ys => valI ys = t) (fun pre => valI pre <+: t) t.length w :=
  fun l J Jx W hW _ _ hY h0 =>
    valI1_in F n hf hro hn l Bs n₀ _ J Jx (Nat.le_refl _) hY W ((hW.cell (p := ⟨Bs, 0, none⟩) hBl).trans hBs) (hT.below hW fun _ h _ => Nat.lt_of_lt_of_le h hn₀) h0
theorem stopsK_later {α : Type} {F : Fence} {n : Nat} {P : Program} {g : Nat} {lb : Array Value} {encs : α → Array Value} {Kp : World → World → Prop} {S Sp : List α → Prop} {N : Nat} {w w' : World}
    (h : SeqStopsK F n P g lb encs Kp S Sp N w) (hb : Below w.heap.size w w') : SeqStopsK F n P g lb encs Kp S Sp N w' :=
  fun l J Jx W hW hJ hJx hY h0 => h l J Jx W (hb.trans (hW.mono hb.size)) (fun s W' W'' row a b c => hJ s W' W'' row a b c) (fun s W' W'' row a b c => hJx s W' W'' row a b c) hY h0

section
variable {F : Fence} {nF : Nat} {P : Program} {ops : Array Oper} {rest : List Oper} {o : Oper} {a : Act} {Q : Exit → Act → World → Prop}
/-- An append of an int, inside a fence. -/
theorem wpListIn_app_int {S : Nat → Prop} {w : World} (hgd : o.guard = none) (s x : Operand) (t : TypeId)
    (ho : o.op = .call { callee := .builtin .append, args := #[s, x], argTypes := #[t, t] })
    {base : Nat} {e : TypeId} (ht : P.underlying t = some (.slice e)) (hi : (P.info? e).map (fun i => (i.zero, i.size, i.bytes)) = some (some (.int .i64 0), 1, 8))
    {v : Value} {xs : List Int} (hs : a.eval s = v) (hown : Own intE S base e w v xs) {B c : Nat} (hx : a.eval x = .slice (some ⟨B, 0, none⟩) 1 c)
    {y : Int} (hy : IntOK y) (hc0 : w.cell? ⟨B, 0, none⟩ = some (.int .i64 y)) (hbytes : xs.length ≤ 1000000000000) (hbase : base ≤ w.heap.size)
    (h : ∀ ao cap w', Own intE S base e w' (.slice ao (xs.length + 1) cap) (xs ++ [y]) → w.grownBy w' v.ownBlock → wpListIn F nF P ops Q rest (a.put o.dst (.slice ao (xs.length + 1) cap)) w') : wpListIn F nF P ops Q (o :: rest) a w := by
  obtain ⟨i, hi1, hz0, hz1, hz2⟩ := info_parts hi
  obtain ⟨vs, hv1, hv2⟩ := hown
  have hR : intE.R (fun _ => False) w y [.int .i64 y] := ⟨rfl, hy⟩
  refine wpListIn_append_own_at w hgd s x t ho base e i _ 1 8 ht hi1 hz0 hz1 hz2 rfl (by decide) v xs.length vs hs (ownsRow_at hv1 fun _ _ => rfl) ⟨B, 0, none⟩ 1 c [.int .i64 y] hx rfl ?_ (intE.one hR) (by simp only [maxLen]; omega) (by omega) hbase ?_
  · intro j u hj
    have hj' : j < 1 := (List.getElem?_eq_some_iff.1 hj).1
    obtain rfl : j = 0 := by omega
    simp at hj; subst hj; exact hc0
  · intro v' w' hown' hgrow _ hat
    obtain ⟨ao, cap, rfl, -, -⟩ := own_shape hown'
    refine h ao cap w' (own_appendW (Sy := fun _ => False) hv1 hv2 (fun _ h => h.elim) ?_ (by have h9 := hown'; exact h9) hgrow hat) hgrow
    intro k y' hk
    obtain rfl : k = 0 := by have := (List.getElem?_eq_some_iff.1 hk).1; simp at this; omega
    simp at hk; subst hk
    exact ⟨_, hR, by simp⟩
end
theorem own_intS {S T : Nat → Prop} {base : Nat} {e : TypeId} {w : World} {v : Value} {xs : List Int} (h : Own intE S base e w v xs) : Own intE T base e w v xs := by
  obtain ⟨vs, h1, h2⟩ := h
  refine ⟨vs, h1, fun k x hx => ?_⟩
  obtain ⟨cs, ⟨rfl, h3⟩, h4⟩ := h2 k x hx
  exact ⟨_, ⟨rfl, h3⟩, h4⟩
/-- The own row is cells. -/
theorem Own.cellsM {α : Type} {E : Elt α} {S : Nat → Prop} {base : Nat} {e : TypeId} {w : World} {v : Value} {xs : List α} (h : Own E S base e w v xs) {j : Nat} {o : Obj} (hj : v.ownBlock = some j) (ho : w.heap[j]? = some o) : o.isCells = true := by
  obtain ⟨vs, h1, _⟩ := h
  rcases h1.2 with ⟨rfl, _⟩ | ⟨g, cap, cur, rfl, _, hgb, _⟩
  · simp [Value.ownBlock] at hj
  · obtain rfl : g = j := by simpa [Value.ownBlock] using hj
    rw [hgb] at ho; cases ho; rfl
theorem own_turnI {S : Nat → Prop} {base : Nat} {e : TypeId} {W W' : World} {v : Value} {xs : List Int} {row : Option Nat} (h : Own intE S base e W v xs) (hg : W.grownBy W' row) (hr : ∀ r, row = some r → ∃ o : Obj, W.heap[r]? = some o ∧ o.isCells = false) : Own intE S base e W' v xs := by
  refine own_intS (S := fun _ => False) ((own_intS (T := fun _ => False) h).moveO (fun b hb hv => hg.block b hb fun e => ?_) fun _ _ h => h.elim)
  obtain ⟨o, ho, hc⟩ := hr b e.symm
  have := h.cellsM hv ho
  rw [hc] at this; cases this
theorem boxed_turnI {W W' : World} {B : Nat} {t : TypeId} {v : Value} {row : Option Nat} (h : Boxed W B t v) (hg : W.grownBy W' row) (hr : ∀ r, row = some r → ∃ o : Obj, W.heap[r]? = some o ∧ o.isCells = false) : Boxed W' B t v :=
  h.kept hg fun e' => by obtain ⟨o, ho, hc⟩ := hr B e'.symm; rw [show W.heap[B]? = _ from h] at ho; cases ho; cases hc

theorem Own.base {α : Type} {E : Elt α} {S : Nat → Prop} {base b0 : Nat} {e : TypeId} {w : World} {v : Value} {xs : List α} (h : Own E S base e w v xs) (hb : b0 ≤ base) : Own E S b0 e w v xs := by
  obtain ⟨vs, ⟨hl, h1⟩, h2⟩ := h
  refine ⟨vs, ⟨hl, ?_⟩, h2⟩
  rcases h1 with h1 | ⟨g, cap, cur, rfl, h0, h1⟩
  · exact .inl h1
  · exact .inr ⟨g, cap, cur, rfl, Nat.le_trans hb h0, h1⟩
/-- What the loop holds between two rounds. -/
structure AppI (w : World) (pre : List FInt) (W : World) : Prop where
  out : ∃ v, Boxed W w.heap.size 33 v ∧ Own intE (fun _ => False) (w.heap.size + 1) 3 W v (valI pre)
  bel : Below w.heap.size w W
  sz : w.heap.size + 1 ≤ W.heap.size
theorem appI_turn {w : World} {B : Nat} (hB : w.heap.size ≤ B) : OwnFrom B (AppI w) := by
  rintro pre W W' row ⟨⟨v, h1, h2⟩, h6, h7⟩ hg hr
  have hr' := fun r e => (hr r e).2
  exact ⟨⟨v, boxed_turnI h1 hg hr', own_turnI h2 hg hr'⟩, h6.grown hg h6.size (fun k e => Nat.le_trans hB (hr k e).1), Nat.le_trans h7 hg.size⟩

theorem infoIntM : (Tryz.prog.info? 3).map (fun i => (i.zero, i.size, i.bytes)) = some (some (.int .i64 0), 1, 8) := by kernel_rfl

set_option maxRecDepth 100000 in
set_option maxHeartbeats 4000000 in
theorem appSeqI_in (F : Fence) (n : Nat) (hf : F.fn 128) (hg : F.fn 111) (hro : F.round = none) (hn : 3 ≤ n) {Bs : Nat} {w : World} {tv : Value} {t : List Int} (hBs : w.cell? ⟨Bs, 0, none⟩ = some tv) (hBl : Bs < w.heap.size)
    (hT : Seq intE (fun b => b < w.heap.size) w tv t) (hlen : t.length ≤ 1000000) :
    CallsIn F n Tryz.prog 128 #[.slice none 0 0, .func (.func 111) #[] #[.pointer (some ⟨Bs, 0, none⟩)]] w (Ret (fun r w' => Own intE (fun _ => False) w.heap.size 3 w' r t) w) := by
  have h1 : 1 ≤ n := by omega
  refine callsIn_of_wp_marks Tryz.func128 rfl hf ?_ hro
  simp only [Tryz.ntmps128, List.size_toArray, List.length_cons, List.length_nil, Nat.reduceAdd, Nat.reduceSub, Array.replicate_succ, Array.replicate_zero, List.push_toArray, List.append_toArray, List.nil_append, List.cons_append]
  gi_wp2
  have b0 := Boxed.new w 33 (.slice none 0 0)
  obtain ⟨W0, hW0⟩ : ∃ W0, w.alloc (.cells #[.slice none 0 0] 33) = W0 := ⟨_, rfl⟩
  have hB0 : Below w.heap.size w W0 := by rw [← hW0]; exact Seq.way
  have hsz : W0.heap.size = w.heap.size + 1 := by rw [← hW0]; simp
  rw [hW0] at b0 ⊢
  clear hW0
  refine wpIn_rangeFunc_ownG hro h1 (gf := 111) (lb := #[.pointer (some ⟨Bs, 0, none⟩)]) rfl hg (enters_of Tryz.func111 (by kernel_rfl) rfl)
    (stopsK_later (valI_stops F (n - 1) hg hro (by omega) Bs w.heap.size w hBs hBl (Nat.le_refl _) hT) hB0)
    belowK_t (belowK_b (by omega)) (Below.refl _ _) (fun _ => rfl)
    (AppI w) (fun _ _ _ => False) (appI_turn (by omega)) (fun _ _ _ _ _ hs _ _ => hs)
    ⟨⟨_, b0, Own.nil _ _ _ _ _⟩, hB0, by omega⟩
    (fun x => { tmps := #[.slice none 0 0, .func (.func 111) #[] #[.pointer (some ⟨Bs, 0, none⟩)], .pointer (some ⟨w.heap.size, 0, none⟩), undef, .slice none 0 0, .int .i64 x.1, .func (.func 111) #[] #[.pointer (some ⟨Bs, 0, none⟩)], .int .i64 x.1, undef, undef, undef, undef, undef], defers := [] })
    ?assign ?body ?done ?stop
  case assign =>
    intro l x W K hK
    gi_wp2
    exact hK
  case body =>
    rintro l pre x W ⟨⟨v, bv, hown⟩, hB, hsW⟩ hlt
    obtain ⟨oa, oc, rfl, -⟩ := hown.shape
    have cv := bv.cell
    have hne := Lib.hid (fun j (hj : j < w.heap.size + 1) => show some j ≠ (Value.slice oa (valI pre).length oc).ownBlock from fun e => by have := (hown.blk e.symm).1; omega)
    have Hown := Lib.hid hown
    have HB := Lib.hid hB
    have BV := Lib.hid bv
    have hsn := Lib.hid (valI_snoc pre x)
    have HW := Lib.hid x.2
    have hll : (valI pre).length ≤ 1000000 := by rw [valI_len]; omega
    obtain ⟨y, hy⟩ : ∃ y, y = x.1 := ⟨_, rfl⟩
    rw [← hy] at hsn HW ⊢
    obtain ⟨L, hL⟩ : ∃ L, L = valI pre := ⟨_, rfl⟩
    rw [← hL] at hll cv Hown hne hsn BV
    clear hown hB hy hL bv
    gi_wp2_with (gi_at_builtin; refine wpListIn_app_int rfl _ _ 33 rfl Tryz.underlying33 infoIntM rfl (Hown.out.move Seq.way) rfl HW.out (by go_simp) (by omega) (by simp; omega) ?_; intro ao cap w1 hown1 hgrow1; have H1 := Lib.hid hown1; have G1 := Lib.hid hgrow1; have bv1 := Lib.hid ((BV.out.alloc _).kept hgrow1 (hne.out _ (by omega))); have cv1 := bv1.out.cell; have fv1 := bv1.out.frozen; clear hown1 hgrow1)
    have hbelow : Below w.heap.size W (w1.setCell ⟨w.heap.size, 0, none⟩ (.slice ao (L.length + 1) cap)) := by
      refine (((Below.refl w.heap.size W).alloc (by omega) _).grown G1.out (by simp; omega) (fun k e => ?_)).setCell (p := ⟨w.heap.size, 0, none⟩) (Nat.le_refl _) _
      have := (Hown.out.blk e).1; omega
    refine ⟨((KeepsOthers.alloc W _).trans ((KeepsOthers.of_grownBy G1.out fun j o h1 h2 => (Hown.out.move (Seq.way : Below W.heap.size W (W.alloc _))).cellsM h1 h2).trans (KeepsOthers.setCell _ _ _))).from _, hbelow, ?_⟩
    refine ⟨⟨_, bv1.out.set _, ?_⟩, HB.out.trans hbelow, ?_⟩
    · rw [hsn.out]
      refine own_intS (S := fun _ => False) ((own_intS (T := fun _ => False) H1.out).moveO (fun b hb hv => Below.heap_setCell _ _ _ _ fun e => ?_) fun _ _ h => h.elim)
      have := (H1.out.blk hv).1
      have e' : b = w.heap.size := e
      omega
    · have := G1.out.size
      simp at this ⊢
      omega
  case done =>
    rintro D ys W hD hys ⟨⟨v, bv, hown⟩, hB, hsW⟩ hK
    rw [hys] at hown
    obtain ⟨oa, oc, rfl, -⟩ := hown.shape
    have cv := bv.cell
    have Hown := Lib.hid hown
    have HB := Lib.hid hB
    have HK := Lib.hid hK
    clear hown hB hK hys
    gi_wp2
    refine ⟨by simp, .inl ⟨_, _, rfl, run_takeDeferred HK.out, ?_⟩⟩
    have hg := grownBy_putObj' W D (.deferred none)
    have hr : ∀ r, some D = some r → ∃ o : Obj, W.heap[r]? = some o ∧ o.isCells = false := fun r e => by cases e; exact ⟨_, HK.out, rfl⟩
    exact ⟨_, results_tmp rfl _ _ _, _, rfl, HB.out.grown hg HB.out.size (fun k e => by cases e; omega), (own_turnI Hown.out hg hr).base (by omega)⟩
  case stop =>
    rintro D c pre W _ _ h _
    exact h.elim
end
section
open Go Go.RowKit Go.Shelf Go.Sort

def sortL (l : List Int) : List Int := l.mergeSort fun x y => decide (x ≤ y)
theorem sortL_perm (l : List Int) : (sortL l).Perm l := List.mergeSort_perm _ _
theorem sortL_len (l : List Int) : (sortL l).length = l.length := (sortL_perm l).length_eq
theorem sortL_mem {l : List Int} {x : Int} : x ∈ sortL l ↔ x ∈ l := (sortL_perm l).mem_iff
theorem sortL_le (l : List Int) : (sortL l).Pairwise (· ≤ ·) :=
  (List.pairwise_mergeSort (le := fun x y : Int => decide (x ≤ y)) (fun a b c h1 h2 => by simp at *; omega) (fun a b => by simp; omega) l).imp fun h => by simpa using h

theorem callsInt_value {S : Nat → Prop} {base : Nat} {e : TypeId} {w : World} {v : Value} {l : List Int} (hl : Own intE S base e w v l) : ∀ x ∈ l, IntOK x := by
  intro x hx
  obtain ⟨k, hk, rfl⟩ := List.mem_iff_getElem.1 hx
  obtain ⟨vs, -, h2⟩ := hl
  obtain ⟨cs, ⟨-, h3⟩, -⟩ := h2 k _ (List.getElem?_eq_getElem hk)
  exact h3

set_option maxHeartbeats 1000000 in
theorem sortI_spec {S : Nat → Prop} {base : Nat} {w : World} {v : Value} {l : List Int} (hl : Own intE S base 3 w v l) (hb : base ≤ w.heap.size) (hlen : l.length ≤ 1000000000) :
    Calls Tryz.prog 110 #[v] w fun e w' => e = .returned (.tuple #[]) ∧ Below base w w' ∧ Own intE S base 3 w' v (sortL l) := by
  have hok := callsInt_value hl
  obtain ⟨vs, ⟨hvl, h1⟩, h2⟩ := hl
  rcases h1 with ⟨rfl, h0⟩ | ⟨g, cap, cur, rfl, hg, hgb, hc, hm, hs, ht⟩
  · have hl0 : l = [] := List.eq_nil_of_length_eq_zero h0
    subst hl0
    refine (AnyM.slices_Sort_int_none sortI none 0 w).mono ?_
    rintro e w' ⟨rfl, rfl⟩
    exact ⟨rfl, Below.refl _ _, by rw [show sortL [] = [] from List.eq_nil_of_length_eq_zero (by rw [sortL_len]; rfl)]; exact Own.nil _ _ _ _ _⟩
  · have hgl : g < w.heap.size := by
      rcases Nat.lt_or_ge g w.heap.size with h | h
      · exact h
      · rw [Array.getElem?_eq_none h] at hgb; cases hgb
    have hvs : ∀ j (hj : j < l.length), vs[j]? = some (.int .i64 l[j]) := fun j hj => by
      obtain ⟨cs, ⟨rfl, -⟩, h3⟩ := h2 j _ (List.getElem?_eq_getElem hj)
      have := h3 0 (by decide)
      simpa [intE] using this
    have hcur : ∀ j, j < l.length → cur[j]? = vs[j]? := fun j hj => by
      have h := congrArg (fun L : List Value => L[j]?) ht
      simp only [intE, Nat.mul_one, List.getElem?_take_of_lt hj] at h
      rw [← h]; simp
    have hH : Go.Sort.Holds (Value.int .i64) w g 0 l.toArray := fun j hj => by
      have hj' : j < l.length := by simpa using hj
      refine ⟨?_, by simp [World.frozen?, hgb]⟩
      rw [getElem!_pos l.toArray j hj]
      simp only [World.cell?, hgb, Nat.zero_add]
      rw [hcur j hj', hvs j hj']
      simp
    refine (AnyM.slices_Sort_int sortI g 0 cap l w hH hgl (by omega)).mono ?_
    rintro e w' ⟨rfl, n, os, rfl⟩
    have hsz : (putRow (Value.int .i64) (Sort.ahead w n) g 0 (l.mergeSort fun x y => decide (x ≤ y)).toArray).heap.size = w.heap.size := by simp [putRow, mapBlock, Sort.ahead]
    have hmb : ∀ b, (putRow (Value.int .i64) (Sort.ahead w n) g 0 (l.mergeSort fun x y => decide (x ≤ y)).toArray).heap[b]? = if g = b then (w.heap[b]?).map (onCells (putCells (Value.int .i64) 0 (sortL l).toArray)) else w.heap[b]? := fun b => by
      simp only [putRow, mapBlock, Sort.ahead, Array.getElem?_modify, sortL]
    have hother : ∀ b, b < w.heap.size → b ≠ g → (grow (putRow (Value.int .i64) (Sort.ahead w n) g 0 (l.mergeSort fun x y => decide (x ≤ y)).toArray) os).heap[b]? = w.heap[b]? := fun b hb' hne => by
      rw [heap_grow_old _ _ (by rw [hsz]; exact hb'), hmb, if_neg (fun e => hne e.symm)]
    refine ⟨rfl, ⟨rfl, rfl, rfl, by rw [size_grow, hsz]; omega, fun b hb' => hother b (by omega) (by omega)⟩, (sortL l).map (.int .i64), ⟨by rw [List.length_map, sortL_len]; simp [intE], .inr ⟨g, cap, putCells (Value.int .i64) 0 (sortL l).toArray cur, by rw [sortL_len], hg, ?_, by rw [sortL_len]; exact hc, hm, by simpa [putCells] using hs, ?_⟩⟩, fun k x hk => ?_⟩
    · rw [heap_grow_old _ _ (by rw [hsz]; exact hgl), hmb, if_pos rfl, hgb]; rfl
    · have hcs : l.length ≤ cur.size := by rw [hs]; simp [intE]; exact hc
      apply List.ext_getElem
      · simp [putCells, sortL_len, intE]; exact Nat.min_eq_left hcs
      · intro i h3 h4
        have hi : i < (sortL l).length := by simpa using h4
        rw [List.getElem_take]
        simp only [putCells, Array.getElem_toList, Array.getElem_mapIdx, Nat.zero_le, Nat.zero_add, true_and, Nat.sub_zero, List.size_toArray]
        rw [if_pos hi, getElem!_pos (sortL l).toArray i (by simpa using hi)]
        simp
    · refine ⟨[.int .i64 x], ⟨rfl, hok x (sortL_mem.1 (List.mem_of_getElem? hk))⟩, fun j hj => ?_⟩
      obtain rfl : j = 0 := by have : j < 1 := hj; omega
      simp [intE, hk]

theorem valuesI_spec {w : World} {a : Option Addr} {n c : Nat} : Calls Tryz.prog 85 #[.slice a n c] w fun e w' => e = .returned (.func (.func 111) #[] #[.pointer (some ⟨w.heap.size, 0, none⟩)]) ∧ w' = w.alloc (.cells #[.slice a n c] 33) := by
  go_enter Tryz.func85, Tryz.ntmps85
  go_wp2_with fail
  go_ret
  exact ⟨rfl, rfl⟩

theorem appSeqI_spec {Bs : Nat} {w : World} {tv : Value} {t : List Int} (hBs : w.cell? ⟨Bs, 0, none⟩ = some tv) (hBl : Bs < w.heap.size)
    (hT : Seq intE (fun b => b < w.heap.size) w tv t) (hlen : t.length ≤ 1000000) :
    Calls Tryz.prog 128 #[.slice none 0 0, .func (.func 111) #[] #[.pointer (some ⟨Bs, 0, none⟩)]] w (Ret (fun r w' => Own intE (fun _ => False) w.heap.size 3 w' r t) w) :=
  callsIn_wide.1 (appSeqI_in Fence.wide 10 trivial trivial rfl (by omega) hBs hBl hT hlen)

set_option maxHeartbeats 1000000 in
theorem collectI_spec {Bs : Nat} {w : World} {tv : Value} {t : List Int} (hBs : w.cell? ⟨Bs, 0, none⟩ = some tv) (hBl : Bs < w.heap.size)
    (hT : Seq intE (fun b => b < w.heap.size) w tv t) (hlen : t.length ≤ 1000000) :
    Calls Tryz.prog 109 #[.func (.func 111) #[] #[.pointer (some ⟨Bs, 0, none⟩)]] w (Ret (fun r w' => Own intE (fun _ => False) w.heap.size 3 w' r t) w) := by
  have hS := Lib.hid (appSeqI_spec hBs hBl hT hlen)
  clear hBs hT
  go_enter Tryz.func109, Tryz.ntmps109
  go_wp2_with fail
  refine hS.out.mono ?_
  rintro e w1 ⟨v1, rfl, hb1, hown⟩
  have Hown := Lib.hid hown
  obtain ⟨a, c, rfl, -, -⟩ := hown.shape
  clear hown
  go_wp2_with fail
  go_ret
  exact ⟨_, rfl, hb1, Hown.out⟩

set_option maxHeartbeats 1000000 in
theorem sortedI_spec {Bs : Nat} {w : World} {tv : Value} {t : List Int} (hBs : w.cell? ⟨Bs, 0, none⟩ = some tv) (hBl : Bs < w.heap.size)
    (hT : Seq intE (fun b => b < w.heap.size) w tv t) (hlen : t.length ≤ 1000000) :
    Calls Tryz.prog 84 #[.func (.func 111) #[] #[.pointer (some ⟨Bs, 0, none⟩)]] w (Ret (fun r w' => Own intE (fun _ => False) w.heap.size 3 w' r (sortL t)) w) := by
  have hS := Lib.hid (collectI_spec hBs hBl hT hlen)
  clear hBs hT
  go_enter Tryz.func84, Tryz.ntmps84
  go_wp2_with fail
  refine hS.out.mono ?_
  rintro e w1 ⟨v1, rfl, hb1, hown⟩
  have Hown := Lib.hid hown
  have hz := hb1.size
  obtain ⟨a, c, rfl, -, -⟩ := hown.shape
  clear hown
  go_wp2_with fail
  refine (sortI_spec Hown.out hz (by omega)).mono ?_
  rintro e w2 ⟨rfl, hb2, hown2⟩
  have Hown2 := Lib.hid hown2
  clear hown2
  go_wp2_with fail
  go_ret
  exact ⟨_, rfl, hb1.trans hb2, Hown2.out⟩
end
end Go.Proofs.YtckkjjiaecnciaaGreat
