/-
  slices.Values, slices.AppendSeq, slices.Collect, slices.SortedFunc, at terms.
-/
import Derived.Test.YtckkjjiaecnciaaGreatMtE
import Derived.Test.YtckkjjiaecnciaaGreatSpT
import Derived.Test.YtckkjjiaecnciaaGreatSpE
namespace Go.Proofs.YtckkjjiaecnciaaGreat
section
open Go Go.RowKit Go.Shelf

attribute [local go_sem] Oper.semAt_some

/-- A term as any call hands it over: where it lies in the world w0. -/
abbrev FTerm (S : Nat → Prop) (w0 : World) := { p : Value × List Cell // Seq cellE S w0 p.1 p.2 }
def valC {S : Nat → Prop} {w0 : World} (l : List (FTerm S w0)) : List (List Cell) := l.map fun p => p.1.2
theorem valC_snoc {S : Nat → Prop} {w0 : World} (l : List (FTerm S w0)) (x : FTerm S w0) : valC (l ++ [x]) = valC l ++ [x.1.2] := by simp [valC]
theorem valC_len {S : Nat → Prop} {w0 : World} (l : List (FTerm S w0)) : (valC l).length = l.length := by simp [valC]

set_option maxRecDepth 100000 in
set_option maxHeartbeats 2000000 in
theorem valC1_in (F : Fence) (n : Nat) (hf : F.fn 74) (hro : F.round = none) (hn : 1 ≤ n) (l Bs N : Nat) {S : Nat → Prop} {w0 : World} {t : List (List Cell)} (J Jx : List (FTerm S w0) → World → Prop) (hN : t.length ≤ N)
    (hY : ∀ pre (x : FTerm S w0) W, J pre W → pre.length < N → YieldAt F (n - 1) Tryz.prog l #[x.1.1] W fun e W' =>
      (e = .returned (.bool true) ∧ J (pre ++ [x]) W' ∧ Below w0.heap.size W W') ∨ (e = .returned (.bool false) ∧ Jx (pre ++ [x]) W'))
    (W : World) {tv : Value} (hBs : W.cell? ⟨Bs, 0, none⟩ = some tv) (hW : Below w0.heap.size w0 W) (hT : Seq (seqE cellE) S w0 tv t) (h0 : J [] W) :
    CallsIn F n Tryz.prog 74 #[.func (.yield l) #[] #[], .pointer (some ⟨Bs, 0, none⟩)] W fun e W' => (∃ v, e = .returned v) ∧
      ((∃ ys, valC ys = t ∧ J ys W') ∨ (∃ pre, valC pre <+: t ∧ Jx pre W')) := by
  obtain ⟨ta, tc, rfl, -, -, htl, -, t5⟩ := hT
  have T5 := Lib.hid t5
  have HW := Lib.hid hW
  refine callsIn_of_wp Tryz.func74 rfl hf ?_ hro
  simp only [Tryz.ntmps74, List.size_toArray, List.length_cons, List.length_nil, Nat.reduceAdd, Nat.reduceSub, Array.replicate_succ, Array.replicate_zero, List.push_toArray, List.append_toArray, List.nil_append, List.cons_append]
  clear t5 hW
  gi_wp2
  gi_loopw [7] (fun i wr => ∃ (k : Nat) (pre : List (FTerm S w0)), k ≤ t.length ∧ i = .int .i64 k ∧ Hid (valC pre = t.take k) ∧ J pre wr ∧ Hid (Below w0.heap.size W wr)) (fun i _ => t.length - (intOf i).toNat)
  case atStart => exact ⟨0, [], Nat.zero_le _, rfl, Lib.hid rfl, h0, Lib.hid (Below.refl _ _)⟩
  case round =>
    obtain ⟨k, pre, hk, rfl, hpre, hJs, hK⟩ := hrel
    obtain ⟨wx, rfl⟩ : ∃ wx, wx = wr := ⟨_, rfl⟩
    by_cases hlt : k < t.length
    · obtain ⟨b, off, p1, n1, rfl, -, hbn, c0', hX⟩ := T5.out.seq hlt
      have c0 := ((HW.out.trans hK.out).cell (p := ⟨b, off + k, none⟩) hbn).trans c0'
      have hsn := Lib.hid (show t.take (k + 1) = t.take k ++ [t[k]] from List.take_succ_eq_append_getElem hlt)
      have hpx := Lib.hid (show t.take (k + 1) <+: t from List.take_prefix _ _)
      have hql := Lib.hid (show pre.length < N from by rw [← valC_len, hpre.out, List.length_take]; omega)
      obtain ⟨c, hc⟩ : ∃ c, c = t[k] := ⟨_, rfl⟩
      rw [← hc] at c0 hX hsn
      clear hc c0'
      have hkl : (k : Int) < (t.length : Int) := by omega
      have hk0 : (0 : Int) ≤ (k : Int) := by omega
      obtain ⟨fn, tmps, assign, body, hy, hR⟩ := hY pre ⟨(.slice p1 c.length n1, c), hX⟩ wx hJs hql.out
      gi_wp2
      refine hR.mono ?_
      rintro e W3 (⟨rfl, hJ3, hk3⟩ | ⟨rfl, hJx3⟩)
      · have H3 := Lib.hid hJ3
        have HK3 := Lib.hid (hK.out.trans hk3)
        clear hJ3 hk3 hR hy
        gi_wp2
        go_roundw
        case rel => exact ⟨k + 1, _, hlt, by go_num, Lib.hid (by rw [valC_snoc, hpre.out, hsn.out]), H3.out, HK3⟩
        case measure => simp [intOf]; omega
      · have HX := Lib.hid hJx3
        clear hJx3 hR hy
        gi_wp2
        refine bodyPost_ret (results_none rfl _ _ _) rfl ?_
        exact ⟨⟨_, rfl⟩, .inr ⟨_, by rw [valC_snoc, hpre.out, ← hsn.out]; exact hpx.out, HX.out⟩⟩
    · obtain rfl : k = t.length := by omega
      rw [List.take_length] at hpre
      gi_wp2
      go_end0
      exact ⟨⟨_, rfl⟩, .inl ⟨pre, hpre.out, hJs⟩⟩

theorem valC_stops (F : Fence) (n : Nat) (hf : F.fn 74) (hro : F.round = none) (hn : 1 ≤ n) (Bs : Nat) {S : Nat → Prop} {t : List (List Cell)} (w : World) {tv : Value} (hBs : w.cell? ⟨Bs, 0, none⟩ = some tv)
    (hBl : Bs < w.heap.size) (hT : Seq (seqE cellE) S w tv t) :
    SeqStopsK F n Tryz.prog 74 #[.pointer (some ⟨Bs, 0, none⟩)] (fun x : FTerm S w => #[x.1.1]) (Below w.heap.size) (fun ys => valC ys = t) (fun pre => valC pre <+: t) t.length w :=
  fun l J Jx W hW _ _ hY h0 =>
    valC1_in F n hf hro hn l Bs _ J Jx (Nat.le_refl _) hY W ((hW.cell (p := ⟨Bs, 0, none⟩) hBl).trans hBs) hW hT h0

section
variable {F : Fence} {nF : Nat} {P : Program} {ops : Array Oper} {rest : List Oper} {o : Oper} {a : Act} {Q : Exit → Act → World → Prop}
/-- An append of a slice, inside a fence. -/
theorem wpListIn_app_seq {α : Type} {E : Elt α} {S Sy : Nat → Prop} {w : World} (hgd : o.guard = none) (s x : Operand) (t : TypeId)
    (ho : o.op = .call { callee := .builtin .append, args := #[s, x], argTypes := #[t, t] })
    {base : Nat} {e : TypeId} (ht : P.underlying t = some (.slice e)) (hi : (P.info? e).map (fun i => (i.zero, i.size, i.bytes)) = some (some (.slice none 0 0), 1, 24))
    {v : Value} {xs : List (List α)} (hs : a.eval s = v) (hown : Own (seqE E) S base e w v xs) {B c : Nat} (hx : a.eval x = .slice (some ⟨B, 0, none⟩) 1 c)
    {y : List α} {vy : Value} (hy : Seq E Sy w vy y) (hS : ∀ b, Sy b → b < w.heap.size → S b ∧ v.ownBlock ≠ some b) (hc0 : w.cell? ⟨B, 0, none⟩ = some vy) (hbytes : xs.length ≤ 1000000000000) (hbase : base ≤ w.heap.size)
    (h : ∀ ao cap w', Own (seqE E) S base e w' (.slice ao (xs.length + 1) cap) (xs ++ [y]) → w.grownBy w' v.ownBlock → wpListIn F nF P ops Q rest (a.put o.dst (.slice ao (xs.length + 1) cap)) w') : wpListIn F nF P ops Q (o :: rest) a w := by
  obtain ⟨i, hi1, hz0, hz1, hz2⟩ := info_parts hi
  obtain ⟨vs, hv1, hv2⟩ := hown
  have hR : (seqE E).R Sy w y [vy] := ⟨vy, rfl, hy⟩
  refine wpListIn_append_own_at w hgd s x t ho base e i _ 1 24 ht hi1 hz0 hz1 hz2 rfl (by decide) v xs.length vs hs (ownsRow_at hv1 fun _ _ => rfl) ⟨B, 0, none⟩ 1 c [vy] hx rfl ?_ ((seqE E).one hR) (by simp only [maxLen]; omega) (by omega) hbase ?_
  · intro j u hj
    have hj' : j < 1 := (List.getElem?_eq_some_iff.1 hj).1
    obtain rfl : j = 0 := by omega
    simp at hj; subst hj; exact hc0
  · intro v' w' hown' hgrow _ hat
    obtain ⟨ao, cap, rfl, -, -⟩ := own_shape hown'
    refine h ao cap w' (own_appendW (Sy := Sy) hv1 hv2 hS ?_ (by have h9 := hown'; exact h9) hgrow hat) hgrow
    intro k y' hk
    obtain rfl : k = 0 := by have := (List.getElem?_eq_some_iff.1 hk).1; simp at this; omega
    simp at hk; subst hk
    exact ⟨_, hR, by simp⟩
end
theorem own_turnC {S : Nat → Prop} {n₀ base B : Nat} {e : TypeId} {W W' : World} {v : Value} {xs : List (List Cell)} {row : Option Nat} (h : Own (seqE cellE) S base e W v xs) (hS : ∀ b, S b → b < n₀) (hg : W.grownBy W' row) (hB : n₀ ≤ B) (hr : ∀ r, row = some r → B ≤ r ∧ ∃ o : Obj, W.heap[r]? = some o ∧ o.isCells = false) : Own (seqE cellE) S base e W' v xs := by
  refine h.moveO (fun b hb hv => hg.block b hb fun e => ?_) fun b hb hlt => hg.block b hb fun e => ?_
  · obtain ⟨-, o, ho, hc⟩ := hr b e.symm
    have := h.cellsM hv ho
    rw [hc] at this; cases this
  · have := (hr b e.symm).1
    have := hS b hlt
    omega
/-- What the loop holds between two rounds. -/
structure AppC (S : Nat → Prop) (w : World) (pre : List (FTerm S w)) (W : World) : Prop where
  out : ∃ v, Boxed W w.heap.size 41 v ∧ Own (seqE cellE) S (w.heap.size + 1) 23 W v (valC pre)
  bel : Below w.heap.size w W
  sz : w.heap.size + 1 ≤ W.heap.size
theorem appC_turn {S : Nat → Prop} {w : World} (hS : ∀ b, S b → b < w.heap.size) {B : Nat} (hB : w.heap.size ≤ B) : OwnFrom B (AppC S w) := by
  rintro pre W W' row ⟨⟨v, h1, h2⟩, h6, h7⟩ hg hr
  have hr' := fun r e => (hr r e).2
  exact ⟨⟨v, boxed_turnI h1 hg hr', own_turnC h2 hS hg hB hr⟩, h6.grown hg h6.size (fun k e => Nat.le_trans hB (hr k e).1), Nat.le_trans h7 hg.size⟩

set_option maxRecDepth 100000 in
set_option maxHeartbeats 4000000 in
theorem appSeqC_in (F : Fence) (n : Nat) (hf : F.fn 104) (hg : F.fn 74) (hro : F.round = none) (hn : 3 ≤ n) {S : Nat → Prop} {Bs : Nat} {w : World} {tv : Value} {t : List (List Cell)} (hBs : w.cell? ⟨Bs, 0, none⟩ = some tv) (hBl : Bs < w.heap.size)
    (hT : Seq (seqE cellE) S w tv t) (hS : ∀ b, S b → b < w.heap.size) (hlen : t.length ≤ 1000000) :
    CallsIn F n Tryz.prog 104 #[.slice none 0 0, .func (.func 74) #[] #[.pointer (some ⟨Bs, 0, none⟩)]] w (Ret (fun r w' => Own (seqE cellE) S w.heap.size 23 w' r t) w) := by
  have h1 : 1 ≤ n := by omega
  refine callsIn_of_wp_marks Tryz.func104 rfl hf ?_ hro
  simp only [Tryz.ntmps104, List.size_toArray, List.length_cons, List.length_nil, Nat.reduceAdd, Nat.reduceSub, Array.replicate_succ, Array.replicate_zero, List.push_toArray, List.append_toArray, List.nil_append, List.cons_append]
  gi_wp2
  have b0 := Boxed.new w 41 (.slice none 0 0)
  obtain ⟨W0, hW0⟩ : ∃ W0, w.alloc (.cells #[.slice none 0 0] 41) = W0 := ⟨_, rfl⟩
  have hB0 : Below w.heap.size w W0 := by rw [← hW0]; exact Seq.way
  have hsz : W0.heap.size = w.heap.size + 1 := by rw [← hW0]; simp
  rw [hW0] at b0 ⊢
  clear hW0
  refine wpIn_rangeFunc_ownG hro h1 (gf := 74) (lb := #[.pointer (some ⟨Bs, 0, none⟩)]) rfl hg (enters_of Tryz.func74 (by kernel_rfl) rfl)
    (stopsK_later (valC_stops F (n - 1) hg hro (by omega) Bs w hBs hBl hT) hB0)
    belowK_t (belowK_b (by omega)) (Below.refl _ _) (fun _ => rfl)
    (AppC S w) (fun _ _ _ => False) (appC_turn hS (by omega)) (fun _ _ _ _ _ hs _ _ => hs)
    ⟨⟨_, b0, Own.nil _ _ _ _ _⟩, hB0, by omega⟩
    (fun x => { tmps := #[.slice none 0 0, .func (.func 74) #[] #[.pointer (some ⟨Bs, 0, none⟩)], .pointer (some ⟨w.heap.size, 0, none⟩), undef, .slice none 0 0, x.1.1, .func (.func 74) #[] #[.pointer (some ⟨Bs, 0, none⟩)], x.1.1, undef, undef, undef, undef, undef], defers := [] })
    ?assign ?body ?done ?stop
  case assign =>
    intro l x W K hK
    gi_wp2
    exact hK
  case body =>
    rintro l pre x W ⟨⟨v, bv, hown⟩, hB, hsW⟩ hlt
    have hxs : Seq cellE S w x.1.1 x.1.2 := x.2
    obtain ⟨xa, xc, hxe⟩ := hxs.shape
    rw [hxe] at hxs ⊢
    obtain ⟨oa, oc, rfl, -⟩ := hown.shape
    have cv := bv.cell
    have hne := Lib.hid (fun j (hj : j < w.heap.size + 1) => show some j ≠ (Value.slice oa (valC pre).length oc).ownBlock from fun e => by have := (hown.blk e.symm).1; omega)
    have Hown := Lib.hid hown
    have HB := Lib.hid hB
    have BV := Lib.hid bv
    have hsn := Lib.hid (valC_snoc pre x)
    obtain ⟨y, hy⟩ : ∃ y, y = x.1.2 := ⟨_, rfl⟩
    rw [← hy] at hsn hxs ⊢
    have HX := Lib.hid (hxs.at hB)
    have hll : (valC pre).length ≤ 1000000 := by rw [valC_len]; omega
    obtain ⟨L, hL⟩ : ∃ L, L = valC pre := ⟨_, rfl⟩
    rw [← hL] at hll cv Hown hne hsn BV
    clear hown hB hL bv hxs hxe hy
    gi_wp2_with (gi_at_builtin; refine wpListIn_app_seq (Sy := S) (y := y) rfl _ _ 41 rfl Tryz.underlying41 infoSeqB rfl (Hown.out.move Seq.way) rfl (HX.out.mono (fun _ h _ => h) fun b _ h => Below.heap_alloc _ _ _ h) (fun b h _ => ⟨h, fun e => hne.out b (by have := hS b h; omega) e.symm⟩) (by go_simp) (by omega) (by simp; omega) ?_; intro ao cap w1 hown1 hgrow1; have H1 := Lib.hid hown1; have G1 := Lib.hid hgrow1; have bv1 := Lib.hid ((BV.out.alloc _).kept hgrow1 (hne.out _ (by omega))); have cv1 := bv1.out.cell; have fv1 := bv1.out.frozen; clear hown1 hgrow1)
    have hbelow : Below w.heap.size W (w1.setCell ⟨w.heap.size, 0, none⟩ (.slice ao (L.length + 1) cap)) := by
      refine (((Below.refl w.heap.size W).alloc (by omega) _).grown G1.out (by simp; omega) (fun k e => ?_)).setCell (p := ⟨w.heap.size, 0, none⟩) (Nat.le_refl _) _
      have := (Hown.out.blk e).1; omega
    refine ⟨((KeepsOthers.alloc W _).trans ((KeepsOthers.of_grownBy G1.out fun j o h1 h2 => (Hown.out.move (Seq.way : Below W.heap.size W (W.alloc _))).cellsM h1 h2).trans (KeepsOthers.setCell _ _ _))).from _, hbelow, ?_⟩
    refine ⟨⟨_, bv1.out.set _, ?_⟩, HB.out.trans hbelow, ?_⟩
    · rw [hsn.out]
      refine H1.out.moveO (fun b hb hv => Below.heap_setCell _ _ _ _ fun e => ?_) fun b _ h => Below.heap_setCell _ _ _ _ fun e => ?_
      · have := (H1.out.blk hv).1
        have e' : b = w.heap.size := e
        omega
      · have e' : b = w.heap.size := e
        have := hS b h
        omega
    · have := G1.out.size
      simp at this ⊢
      omega
  case done =>
    rintro D ys W hD hys ⟨⟨v, bv, hown⟩, hB, hsW⟩ hK
    rw [hys] at hown
    obtain ⟨oa, oc, rfl, -⟩ := hown.shape
    have cv := bv.cell
    have Hown := Lib.hid hown
    have HB := Lib.hid hB
    have HK := Lib.hid hK
    clear hown hB hK hys
    gi_wp2
    refine ⟨by simp, .inl ⟨_, _, rfl, run_takeDeferred HK.out, ?_⟩⟩
    have hg := grownBy_putObj' W D (.deferred none)
    have hr : ∀ r, some D = some r → w.heap.size ≤ r ∧ ∃ o : Obj, W.heap[r]? = some o ∧ o.isCells = false := fun r e => by cases e; exact ⟨by omega, _, HK.out, rfl⟩
    exact ⟨_, results_tmp rfl _ _ _, _, rfl, HB.out.grown hg HB.out.size (fun k e => by cases e; omega), (own_turnC Hown.out hS hg (Nat.le_refl _) hr).base (by omega)⟩
  case stop =>
    rintro D c pre W _ _ h _
    exact h.elim
end
section
open Go Go.RowKit Go.Shelf Go.Sort

theorem valuesC_spec {w : World} {a : Option Addr} {n c : Nat} : Calls Tryz.prog 44 #[.slice a n c] w fun e w' => e = .returned (.func (.func 74) #[] #[.pointer (some ⟨w.heap.size, 0, none⟩)]) ∧ w' = w.alloc (.cells #[.slice a n c] 41) := by
  go_enter Tryz.func44, Tryz.ntmps44
  go_wp2_with fail
  go_ret
  exact ⟨rfl, rfl⟩

theorem appSeqC_spec {S : Nat → Prop} {Bs : Nat} {w : World} {tv : Value} {t : List (List Cell)} (hBs : w.cell? ⟨Bs, 0, none⟩ = some tv) (hBl : Bs < w.heap.size)
    (hT : Seq (seqE cellE) S w tv t) (hS : ∀ b, S b → b < w.heap.size) (hlen : t.length ≤ 1000000) :
    Calls Tryz.prog 104 #[.slice none 0 0, .func (.func 74) #[] #[.pointer (some ⟨Bs, 0, none⟩)]] w (Ret (fun r w' => Own (seqE cellE) S w.heap.size 23 w' r t) w) :=
  callsIn_wide.1 (appSeqC_in Fence.wide 10 trivial trivial rfl (by omega) hBs hBl hT hS hlen)

set_option maxHeartbeats 1000000 in
theorem collectC_spec {S : Nat → Prop} {Bs : Nat} {w : World} {tv : Value} {t : List (List Cell)} (hBs : w.cell? ⟨Bs, 0, none⟩ = some tv) (hBl : Bs < w.heap.size)
    (hT : Seq (seqE cellE) S w tv t) (hS : ∀ b, S b → b < w.heap.size) (hlen : t.length ≤ 1000000) :
    Calls Tryz.prog 72 #[.func (.func 74) #[] #[.pointer (some ⟨Bs, 0, none⟩)]] w (Ret (fun r w' => Own (seqE cellE) S w.heap.size 23 w' r t) w) := by
  have HSp := Lib.hid (appSeqC_spec hBs hBl hT hS hlen)
  clear hBs hT
  go_enter Tryz.func72, Tryz.ntmps72
  go_wp2_with fail
  refine HSp.out.mono ?_
  rintro e w1 ⟨v1, rfl, hb1, hown⟩
  have Hown := Lib.hid hown
  obtain ⟨a, c, rfl, -, -⟩ := hown.shape
  clear hown
  go_wp2_with fail
  go_ret
  exact ⟨_, rfl, hb1, Hown.out⟩

set_option maxHeartbeats 1000000 in
theorem sortedC_spec {S : Nat → Prop} {Bs : Nat} {w : World} {tv : Value} {t : List (List Cell)} (hBs : w.cell? ⟨Bs, 0, none⟩ = some tv) (hBl : Bs < w.heap.size)
    (hT : Seq (seqE cellE) S w tv t) (hS : ∀ b, S b → b < w.heap.size) (hlen : t.length ≤ 1000000) (hn : t.Nodup) :
    Calls Tryz.prog 43 #[.func (.func 74) #[] #[.pointer (some ⟨Bs, 0, none⟩)], .func (.func 42) #[] #[]] w (Ret (fun r w' => Own (seqE cellE) S w.heap.size 23 w' r (setL cmpT t)) w) := by
  have HSp := Lib.hid (collectC_spec hBs hBl hT hS hlen)
  have hN := Lib.hid hn
  clear hBs hT hn
  go_enter Tryz.func43, Tryz.ntmps43
  go_wp2_with fail
  refine HSp.out.mono ?_
  rintro e w1 ⟨v1, rfl, hb1, hown⟩
  have Hown := Lib.hid hown
  have hz := hb1.size
  obtain ⟨a, c, rfl, -, -⟩ := hown.shape
  clear hown
  go_wp2_with fail
  refine (sortTerm_spec Hown.out hz (by omega)).mono ?_
  rintro e w2 ⟨rfl, hb2, l', hp, hs, hown2⟩
  have Hown2 := Lib.hid (sorted_set cmpT_cmp hp hs hN.out ▸ hown2)
  clear hown2 hp hs
  go_wp2_with fail
  go_ret
  exact ⟨_, rfl, hb1.trans hb2, Hown2.out⟩
end
end Go.Proofs.YtckkjjiaecnciaaGreat
