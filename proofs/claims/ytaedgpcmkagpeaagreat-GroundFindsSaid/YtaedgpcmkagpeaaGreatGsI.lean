/-
  Layer 16, the document: the atoms of a set and their rules (Only), cut programs (Cut). Boxes written while rows grow.
-/
import Derived.Test.YtaedgpcmkagpeaaGreatGsH
namespace Go.Proofs.YtaedgpcmkagpeaaGreat
open Go Go.RowKit

/-! ### A box that is written while rows of one's own grow -/
theorem gr_seq {α : Type} {E : Elt α} {S : Nat → Prop} {w w' : World} {o : Option Nat} {v : Value} {l : List α} (h : Seq E S w v l) (hw : w.grownBy w' o) (hS : ∀ b, S b → o ≠ some b) : Seq E S w' v l :=
  h.mono (fun _ h _ => h) fun b hb hl => hw.block b hl (fun e => hS b hb e.symm)
theorem gr_own {α : Type} {E : Elt α} {S : Nat → Prop} {base : Nat} {e : TypeId} {w w' : World} {o : Option Nat} {v : Value} {l : List α} (h : Own E S base e w v l) (hw : w.grownBy w' o) (hv : ∀ b, v.ownBlock = some b → o ≠ some b) (hS : ∀ b, S b → o ≠ some b) : Own E S base e w' v l :=
  h.moveO (fun b hl hb => hw.block b hl fun e => hv b hb e.symm) fun b hl hb => hw.block b hl fun e => hS b hb e.symm
theorem gr_of {w0 w w' : World} {o : Option Nat} (h : w0.grownBy w o) (hb : Below w0.heap.size w w') : w0.grownBy w' o :=
  ⟨hb.os.trans h.os, hb.tape.trans h.tape, hb.output.trans h.output, Nat.le_trans h.size hb.size, fun k hk hne => (hb.block k hk).trans (h.block k hk hne)⟩
theorem gr_set (w : World) (g o : Nat) (v : Value) : w.grownBy (w.setCell ⟨g, o, none⟩ v) (some g) :=
  ⟨rfl, rfl, rfl, by simp [World.setCell], fun k _ hne => Below.heap_setCell _ _ _ _ (fun e => hne (by rw [e]))⟩
theorem gr_trans {w w1 w2 : World} {g : Option Nat} (h : w.grownBy w1 g) (h2 : w1.grownBy w2 g) : w.grownBy w2 g :=
  ⟨h2.os.trans h.os, h2.tape.trans h.tape, h2.output.trans h.output, Nat.le_trans h.size h2.size, fun k hk hne => (h2.block k (Nat.lt_of_lt_of_le hk h.size) hne).trans (h.block k hk hne)⟩
theorem gr_refl (w : World) (o : Option Nat) : w.grownBy w o := ⟨rfl, rfl, rfl, Nat.le_refl _, fun _ _ _ => rfl⟩
theorem gr_below {B g : Nat} {w w' : World} (h : w.grownBy w' (some g)) (hg : B ≤ g) (hB : B ≤ w.heap.size) : Below B w w' :=
  ⟨h.os, h.tape, h.output, h.size, fun k hk => h.block k (by omega) (fun e => by simp at e; omega)⟩
theorem gr_cell {w w' : World} {g : Nat} {p : Addr} {u : Value} (h : w.grownBy w' (some g)) (hc : w.cell? p = some u) (hne : p.block ≠ g) : w'.cell? p = some u :=
  (World.cell?_of_block (h.block _ (World.block_lt_of_cell? w p hc) (fun e => hne (by simpa using e)))).trans hc
theorem own_set {α : Type} {E : Elt α} {S : Nat → Prop} {base : Nat} {e : TypeId} {w : World} {v : Value} {l : List α} (h : Own E S base e w v l) {g o : Nat} {u : Value} (hg : g < base) (hS : ∀ b, S b → b ≠ g) : Own E S base e (w.setCell ⟨g, o, none⟩ u) v l :=
  gr_own h (gr_set w g o u) (fun b hb e => by have := (h.blk hb).1; simp at e; omega) fun b hb e => hS b hb (by simpa using e.symm)
theorem keepA {base : Nat} {wm w4 w5 : World} {v v' : Value} (hk : Kept base wm w4 w5 v v') {p : Addr} {u : Value} (h : w4.cell? p = some u) (hb : p.block < base ∨ wm.heap.size ≤ p.block) : w5.cell? p = some u := by
  have hl := World.block_lt_of_cell? w4 p h
  refine (World.cell?_of_block ?_).trans h
  rcases hb with hb | hb
  · exact hk.below.block _ hb
  · exact hk.block _ hb hl
section
variable {P : Program} {o : Oper} {a : Act} {Q : Exit → Act → World → Prop}
theorem wp_app_seqK {α : Type} {E : Elt α} {S Sy : Nat → Prop} {w wm : World} {K : Act → World → Prop} (s x : Operand) (t : TypeId)
    (ho : o.op = .call { callee := .builtin .append, args := #[s, x], argTypes := #[t, t] })
    {base : Nat} {e : TypeId} (ht : P.underlying t = some (.slice e)) (hi : (P.info? e).map (fun i => (i.zero, i.size, i.bytes)) = some (some (.slice none 0 0), 1, 24))
    {v : Value} {xs : List (List α)} (hs : a.eval s = v) (hown : Own (seqE E) S base e wm v xs) {B c : Nat} (hx : a.eval x = .slice (some ⟨B, 0, none⟩) 1 c)
    (hbw : Below wm.heap.size wm w) {y : List α} {vy : Value} (hy : Seq E Sy w vy y) (hS : ∀ b, Sy b → b < w.heap.size → S b ∧ (b < base ∨ wm.heap.size ≤ b)) (hcs : w.cell? ⟨B, 0, none⟩ = some vy) (hbytes : xs.length ≤ 1000000000000) (hbase : base ≤ wm.heap.size)
    (h : ∀ ao cap w', Own (seqE E) S base e w' (.slice ao (xs.length + 1) cap) (xs ++ [y]) → Kept base wm w w' v (.slice ao (xs.length + 1) cap) → K (a.put o.dst (.slice ao (xs.length + 1) cap)) w') : o.wp P a w K Q :=
  wp_app1 (E := seqE E) (Sy := Sy) (y := y) (cs := [vy]) s x t ho ht hi rfl hs hown hbw _ _ hx ⟨vy, rfl, hy⟩ hS
    (by intro j hj; obtain rfl : j = 0 := (by have : j < 1 := hj; omega); exact hcs) (by omega) (by simp only [maxLen]; omega) hbase h
theorem wp_app_ruleK {S Sy : Nat → Prop} {w wm : World} {K : Act → World → Prop} (s x : Operand) (t : TypeId)
    (ho : o.op = .call { callee := .builtin .append, args := #[s, x], argTypes := #[t, t] })
    {base : Nat} {e : TypeId} (ht : P.underlying t = some (.slice e)) (hi : (P.info? e).map (fun i => (i.zero, i.size, i.bytes)) = some (some (.agg #[.int .i64 0, .slice none 0 0, .slice none 0 0]), 3, 56))
    {v : Value} {xs : List Rule} (hs : a.eval s = v) (hown : Own ruleE S base e wm v xs) {B c : Nat} (hx : a.eval x = .slice (some ⟨B, 0, none⟩) 1 c)
    (hbw : Below wm.heap.size wm w) {y : Rule} {vp vn : Value} (hh : IntOK y.head) (hp : Seq intE Sy w vp y.pos) (hn : Seq intE Sy w vn y.neg) (hS : ∀ b, Sy b → b < w.heap.size → S b ∧ (b < base ∨ wm.heap.size ≤ b))
    (hc0 : w.cell? ⟨B, 0, none⟩ = some (.int .i64 y.head)) (hc1 : w.cell? ⟨B, 1, none⟩ = some vp) (hc2 : w.cell? ⟨B, 2, none⟩ = some vn) (hbytes : xs.length ≤ 1000000000000) (hbase : base ≤ wm.heap.size)
    (h : ∀ ao cap w', Own ruleE S base e w' (.slice ao (xs.length + 1) cap) (xs ++ [y]) → Kept base wm w w' v (.slice ao (xs.length + 1) cap) → K (a.put o.dst (.slice ao (xs.length + 1) cap)) w') : o.wp P a w K Q :=
  wp_app1 (E := ruleE) (Sy := Sy) (y := y) (cs := [.int .i64 y.head, vp, vn]) s x t ho ht hi rfl hs hown hbw _ _ hx ⟨vp, vn, rfl, hh, hp, hn⟩ hS
    (by
      intro j hj
      have h3 : j < 3 := hj
      rcases (show j = 0 ∨ j = 1 ∨ j = 2 by omega) with rfl | rfl | rfl
      · exact hc0
      · exact hc1
      · exact hc2) (by omega) (by simp only [maxLen]; omega) hbase h
end

/-! ### Only -/
theorem filter_snoc {α : Type} (p : α → Bool) {l : List α} {k : Nat} (hk : k < l.length) : (l.take (k + 1)).filter p = (l.take k).filter p ++ (if p l[k] = true then [l[k]] else []) := by
  rw [List.take_succ_eq_append_getElem hk, List.filter_append]
  congr 1
  by_cases h : p l[k] = true <;> simp [h]
def onlyTo (g : Prog) (ls : List Nat) (k : Nat) : List Rule := ((g.rules.take k).filter fun r => inLN ls r.head).map (onlyR ls)
theorem onlyTo_yes {g : Prog} {ls : List Nat} {k : Nat} (hk : k < g.rules.length) (h : inLN ls g.rules[k].head = true) : onlyTo g ls (k + 1) = onlyTo g ls k ++ [onlyR ls g.rules[k]] := by
  unfold onlyTo; rw [filter_snoc _ hk, if_pos h, List.map_append]; rfl
theorem onlyTo_no {g : Prog} {ls : List Nat} {k : Nat} (hk : k < g.rules.length) (h : inLN ls g.rules[k].head = false) : onlyTo g ls (k + 1) = onlyTo g ls k := by
  unfold onlyTo; rw [filter_snoc _ hk, if_neg (by simp [h]), List.append_nil]
theorem onlyTo_len (g : Prog) (ls : List Nat) (k : Nat) : (onlyTo g ls k).length ≤ k := by
  unfold onlyTo
  rw [List.length_map]
  have h1 := List.length_filter_le (fun r => inLN ls r.head) (g.rules.take k)
  rw [List.length_take] at h1
  omega
set_option maxHeartbeats 12800000 in
set_option maxRecDepth 100000 in
theorem OnlyR_spec {S T : Nat → Prop} {w : World} {v u : Value} {g : Prog} {ls : List Nat} (hg : ProgV S w v g) (hl : Seq intE T w u (natsZ ls)) (hls : ∀ k ∈ ls, k < g.atoms.length) (hn : ls.length ≤ 100000) (hrl : g.rules.length ≤ 100000)
    (hlits : ∀ r ∈ g.rules, r.pos.length ≤ 100000 ∧ r.neg.length ≤ 100000) :
    Calls Tryz.prog 65 #[v, u] w (Ret (fun o w' => ProgV (Fr S w) w' o (onlyG g ls)) w) := by
  obtain ⟨va, vr, rfl, hA, hR⟩ := hg
  have HA := Lib.hid hA.bnd
  have HRl := Lib.hid hR.bnd
  have HL := Lib.hid hl.bnd
  have Hls := Lib.hid hls
  have Hlits := Lib.hid hlits
  obtain ⟨ra, rc, rfl⟩ := hR.shape
  obtain ⟨aa, ac, rfl⟩ := hA.shape
  obtain ⟨la, lc, rfl⟩ := hl.shape
  have hnl1 : (natsZ ls).length ≤ ls.length := Nat.le_of_eq (natsZ_len ls)
  have hnl2 : ls.length ≤ (natsZ ls).length := Nat.le_of_eq (natsZ_len ls).symm
  obtain ⟨N, hN⟩ : ∃ N, N = natsZ ls := ⟨_, rfl⟩
  have HN := Lib.hid hN
  rw [← hN] at HL hnl1 hnl2 ⊢
  clear hA hR hl hls hN hlits
  obtain ⟨W, hW⟩ : ∃ W, W = ((w.alloc (.cells #[.slice aa g.atoms.length ac, .slice ra g.rules.length rc] 26)).alloc (.cells #[.slice none 0 0, .slice none 0 0] 26)).alloc (.cells #[.slice none 0 0, .slice none 0 0] 26) := ⟨_, rfl⟩
  have HB := Lib.hid (show Below w.heap.size w W by rw [hW]; exact Seq.way)
  have hzW1 : W.heap.size ≤ w.heap.size + 3 := by rw [hW]; simp
  have hzW2 : w.heap.size + 3 ≤ W.heap.size := by rw [hW]; simp
  have HP := Lib.hid (show Row 26 W w.heap.size [.slice aa g.atoms.length ac, .slice ra g.rules.length rc] by rw [hW]; exact ((Row.new w [_, _] _ rfl).alloc _).alloc _)
  have HZ := Lib.hid (show Row 26 W (w.heap.size + 1) [.slice none 0 0, .slice none 0 0] by rw [hW]; exact (Row.new _ [_, _] _ (by simp)).alloc _)
  have HO0 := Lib.hid (show Row 26 W (w.heap.size + 1 + 1) [.slice none 0 0, .slice none 0 0] by rw [hW]; exact Row.new _ [_, _] _ (by simp))
  have HW := Lib.hid hW
  clear hW
  go_enter Tryz.func65, Tryz.ntmps65
  go_upto_region 2 with fail
  rw [← HW.out]
  go_wp2_with fail
  go_loopw [6] (fun i wr => ∃ (k : Nat) (va : Value), i = .int .i64 k ∧ k ≤ ls.length ∧ Hid (Row 26 wr (w.heap.size + 1 + 1) [va, .slice none 0 0]) ∧ Hid (Own (seqE cellE) (fun b => S b ∧ b < w.heap.size) W.heap.size 33 wr va ((ls.take k).map fun j => g.atoms[j]?.getD [])) ∧ Hid (W.grownBy wr (some (w.heap.size + 1 + 1)))) (fun i _ => ls.length - (intOf i).toNat)
  case atStart => exact ⟨0, _, rfl, Nat.zero_le _, HO0, Lib.hid (Own.nil _ _ _ _ _), Lib.hid (gr_refl _ _)⟩
  case round =>
    obtain ⟨k, vo, rfl, hk, hrow, hO, hgr⟩ := hrel
    have hzr := hgr.out.size
    have hbw := Lib.hid (HB.out.trans (gr_below hgr.out (B := w.heap.size) (by omega) (by omega)))
    have HPr := Lib.hid (HP.out.at (hgr.out.block _ HP.out.lt (by simp <;> omega)))
    have HZr := Lib.hid (HZ.out.at (hgr.out.block _ HZ.out.lt (by simp)))
    by_cases hlt : k < ls.length
    · have lP := HPr.out.lt
      have lO := hrow.out.lt
      have d0 := HPr.out.cell (j := 0) (by simp)
      have o0 := hrow.out.cell (j := 0) (by simp)
      simp only [List.getElem_cons_zero] at d0 o0
      have hkN : k < N.length := by omega
      obtain ⟨_, _, ee, -, -, -, -, x5⟩ := (HL.out.at hbw.out)
      simp only [Value.slice.injEq, true_and] at ee
      obtain ⟨rfl, rfl⟩ := ee
      obtain ⟨b, off, rfl, ⟨-, hbW⟩, hb, hc, -⟩ := x5.int hkN
      have hNk : N[k] = ((ls[k] : Nat) : Int) := by simp only [HN.out]; exact natsZ_get _
      rw [hNk] at hc
      have hjl := Hls.out _ (List.getElem_mem hlt)
      obtain ⟨_, _, ee, -, -, -, -, y5⟩ := (HA.out.at hbw.out)
      simp only [Value.slice.injEq, true_and] at ee
      obtain ⟨rfl, rfl⟩ := ee
      obtain ⟨b2, off2, p1, n1, rfl, ⟨-, hbW2⟩, hb2, hc2, hX⟩ := y5.seq hjl
      have HX := Lib.hid hX
      have hst := Lib.hid (show (ls.take (k + 1)).map (fun j => g.atoms[j]?.getD []) = (ls.take k).map (fun j => g.atoms[j]?.getD []) ++ [g.atoms[ls[k]]] by
        rw [List.take_succ_eq_append_getElem hlt, List.map_append]
        simp only [List.map_cons, List.map_nil, List.getElem?_eq_getElem hjl, Option.getD_some])
      have hQl : ((ls.take k).map fun j => g.atoms[j]?.getD []).length ≤ 100000 := by rw [List.length_map, List.length_take]; omega
      obtain ⟨Q, hQ⟩ : ∃ Q, Q = (ls.take k).map fun j => g.atoms[j]?.getD [] := ⟨_, rfl⟩
      rw [← hQ] at hO hst hQl
      obtain ⟨x, hx⟩ : ∃ x, x = g.atoms[ls[k]] := ⟨_, rfl⟩
      rw [← hx] at hc2 HX hst
      obtain ⟨j, hj⟩ : ∃ j, j = ls[k] := ⟨_, rfl⟩
      rw [← hj] at hc hc2 hjl
      obtain ⟨oa, oc, rfl, -, -⟩ := hO.out.shape
      have hkl : (k : Int) < (N.length : Int) := by omega
      have hk0 : (0 : Int) ≤ (k : Int) := by omega
      have hj0 : (0 : Int) ≤ (j : Int) := by omega
      have hj1 : (j : Int) < (g.atoms.length : Int) := by omega
      have hjt : ((j : Int)).toNat = j := by omega
      clear hX hx x5 y5 hQ hj hNk
      go_upto_region 5 with fail
      have Hkeep := fun {Wk : World} (hW : Below W.heap.size wr Wk) => Lib.hid (show Wk.cell? ⟨w.heap.size + 1 + 1, 0, none⟩ = some (.slice oa Q.length oc) ∧ Wk.cell? ⟨w.heap.size, 0, none⟩ = some (.slice (some ⟨b2, off2, none⟩) g.atoms.length ac) ∧ Wk.cell? ⟨b, off + k, none⟩ = some (.int .i64 (j : Int)) ∧ Wk.cell? ⟨b2, off2 + j, none⟩ = some (.slice p1 x.length n1) from ⟨(hW.cell (p := ⟨w.heap.size + 1 + 1, 0, none⟩) (show w.heap.size + 1 + 1 < W.heap.size by omega)).trans o0, (hW.cell (p := ⟨w.heap.size, 0, none⟩) (show w.heap.size < W.heap.size by omega)).trans d0, (hW.cell (p := ⟨b, off + k, none⟩) (show b < W.heap.size by omega)).trans hc, (hW.cell (p := ⟨b2, off2 + j, none⟩) (show b2 < W.heap.size by omega)).trans hc2⟩)
      (try simp only [List.append_eq, List.cons_append, List.nil_append])
      refine wp_region_noPanic ?_
      refine wp_region_last (S := fun w' => w'.cell? ⟨w.heap.size + 1 + 1, 0, none⟩ = some (.slice oa Q.length oc) ∧ w'.cell? ⟨w.heap.size, 0, none⟩ = some (.slice (some ⟨b2, off2, none⟩) g.atoms.length ac) ∧ w'.cell? ⟨b, off + k, none⟩ = some (.int .i64 (j : Int)) ∧ w'.cell? ⟨b2, off2 + j, none⟩ = some (.slice p1 x.length n1)) (by kernel_rfl) ?_ rfl ?_ (fun hHeld => ?_)
      · kernel_rfl
      · exact (Hkeep (Below.drew (Below.refl _ _))).out
      dsimp only [List.dropLast]
      refine wpAnyH_take1 (i := 0) (oi := _) (v := ?_) (by kernel_rfl) rfl (by kernel_rfl) (fun _ _ _ h => h) (Or.inl ⟨by rfl, ?_⟩) (by assumption) ?_
      rotate_left 1
      · intro w hSw; (try dsimp only at hSw); go_simp; (with_reducible rfl)
      (try simp only [Act.put, List.getElem_toArray, List.getElem_cons_zero, List.setIfInBounds_toArray, List.set_cons_zero, List.set_cons_succ])
      refine wpAnyH_take1 (i := 1) (oi := _) (v := ?_) (by kernel_rfl) rfl (by kernel_rfl) (fun _ _ _ h => h) (Or.inl ⟨by rfl, ?_⟩) (by assumption) ?_
      rotate_left 1
      · intro w hSw; (try dsimp only at hSw); go_simp; (with_reducible rfl)
      (try simp only [Act.put, List.getElem_toArray, List.getElem_cons_zero, List.getElem_cons_succ, List.setIfInBounds_toArray, List.set_cons_zero, List.set_cons_succ])
      refine wpAnyH_take1 (i := 2) (oi := _) (v := ?_) (by kernel_rfl) rfl (by kernel_rfl) (fun _ _ _ h => h) (Or.inl ⟨by rfl, ?_⟩) (by assumption) ?_
      rotate_left 1
      · intro w hSw; (try dsimp only at hSw); go_simp; (with_reducible rfl)
      (try simp only [Act.put, List.getElem_toArray, List.getElem_cons_zero, List.getElem_cons_succ, List.setIfInBounds_toArray, List.set_cons_zero, List.set_cons_succ])
      refine wpAnyH_take1 (i := 3) (oi := _) (v := ?_) (by kernel_rfl) rfl (by kernel_rfl) (fun _ _ _ h => h) (Or.inl ⟨by rfl, ?_⟩) (by assumption) ?_
      rotate_left 1
      · intro w hSw; (try dsimp only at hSw); go_simp; (with_reducible rfl)
      (try simp only [Act.put, List.getElem_toArray, List.getElem_cons_zero, List.getElem_cons_succ, List.setIfInBounds_toArray, List.set_cons_zero, List.set_cons_succ])
      refine wpAnyH_take1 (i := 4) (oi := _) (v := ?_) (by kernel_rfl) rfl (by kernel_rfl) (fun _ _ _ h => h) (Or.inl ⟨by rfl, ?_⟩) (by assumption) ?_
      rotate_left 1
      · intro w hSw; (try dsimp only at hSw); go_simp; (with_reducible rfl)
      (try simp only [Act.put, List.getElem_toArray, List.getElem_cons_zero, List.getElem_cons_succ, List.setIfInBounds_toArray, List.set_cons_zero, List.set_cons_succ])
      refine wpAnyH_take1 (i := 5) (oi := _) (v := ?_) (by kernel_rfl) rfl (by kernel_rfl) (fun _ _ _ h => h) (Or.inl ⟨by rfl, ?_⟩) (by assumption) ?_
      rotate_left 1
      · intro w hSw; (try dsimp only at hSw); go_simp; (with_reducible rfl)
      (try simp only [Act.put, List.getElem_toArray, List.getElem_cons_zero, List.getElem_cons_succ, List.setIfInBounds_toArray, List.set_cons_zero, List.set_cons_succ])
      refine wpAnyH_take1 (i := 6) (oi := _) (v := ?_) (by kernel_rfl) rfl (by kernel_rfl) (fun _ _ _ h => h) (Or.inl ⟨by rfl, ?_⟩) (by assumption) ?_
      rotate_left 1
      · intro w hSw; (try dsimp only at hSw); go_simp; (with_reducible rfl)
      (try simp only [Act.put, List.getElem_toArray, List.getElem_cons_zero, List.getElem_cons_succ, List.setIfInBounds_toArray, List.set_cons_zero, List.set_cons_succ])
      refine wpAnyH_take1 (i := 7) (oi := _) (v := ?_) (by kernel_rfl) rfl (by kernel_rfl) (fun _ _ _ h => h) (Or.inl ⟨by rfl, ?_⟩) (by assumption) ?_
      rotate_left 1
      · intro w hSw; (try dsimp only at hSw); go_simp; (with_reducible rfl)
      (try simp only [Act.put, List.getElem_toArray, List.getElem_cons_zero, List.getElem_cons_succ, List.setIfInBounds_toArray, List.set_cons_zero, List.set_cons_succ])
      refine wpAnyH_take1 (i := 8) (oi := _) (v := ?_) (by kernel_rfl) rfl (by kernel_rfl) (fun _ _ _ h => h) (Or.inl ⟨by rfl, ?_⟩) (by assumption) ?_
      rotate_left 1
      · intro w hSw; (try dsimp only at hSw); go_simp; (with_reducible rfl)
      (try simp only [Act.put, List.getElem_toArray, List.getElem_cons_zero, List.getElem_cons_succ, List.setIfInBounds_toArray, List.set_cons_zero, List.set_cons_succ])
      refine wpAnyH_take1 (i := 9) (oi := _) (v := ?_) (by kernel_rfl) rfl (by kernel_rfl) (fun _ _ _ h => h) (Or.inl ⟨by rfl, ?_⟩) (by assumption) ?_
      rotate_left 1
      · intro w hSw; (try dsimp only at hSw); go_simp; (with_reducible rfl)
      (try simp only [Act.put, List.getElem_toArray, List.getElem_cons_zero, List.getElem_cons_succ, List.setIfInBounds_toArray, List.set_cons_zero, List.set_cons_succ])
      refine wpAnyH_one (i := 10) (by kernel_rfl) rfl (by rfl) fun K hK => ?_
      go_simp
      (try dsimp only)
      clear hHeld
      refine hK.out _ _ (Hkeep (Below.mono (Seq.way : Below wr.heap.size wr _) hzr)).out fun hHeld => ?_
      clear hK K
      (try simp only [Act.put, List.getElem_toArray, List.getElem_cons_zero, List.getElem_cons_succ, List.setIfInBounds_toArray, List.set_cons_zero, List.set_cons_succ])
      refine wpAnyH_one (i := 11) (by kernel_rfl) rfl (by rfl) fun K hK => ?_
      refine (wp_app_seqK (E := cellE) (S := fun b => S b ∧ b < w.heap.size) (Sy := fun b => S b ∧ b < w.heap.size) (base := W.heap.size) (wm := wr) (y := x) (vy := .slice p1 x.length n1) _ _ 23 rfl Tryz.underlying23 infoSeq rfl hO.out rfl Seq.way (HX.out.at Seq.way) (fun b h _ => ⟨h, .inl (by omega)⟩) ((Row.new _ [_] _ rfl).cell (j := 0) (by simp)) (by omega) hzr ?_)
      intro ao5 cap5 w5 hown5 hk5
      have H5 := Lib.hid hown5
      have B5 := Lib.hid (Below.trans (Below.mono (Seq.way : Below wr.heap.size wr _) hzr) hk5.below)
      have row5 := Lib.hid (hrow.out.at (B5.out.block _ (show w.heap.size + 1 + 1 < W.heap.size by omega)))
      have fz5 := row5.out.frozen 0
      have oc5 := row5.out.cell (j := 0) (by simp)
      simp only [List.getElem_cons_zero] at oc5
      clear hown5 hk5
      clear hHeld
      refine hK.out _ _ (Hkeep B5.out).out fun hHeld => ?_
      clear hK K
      (try simp only [Act.put, List.getElem_toArray, List.getElem_cons_zero, List.getElem_cons_succ, List.setIfInBounds_toArray, List.set_cons_zero, List.set_cons_succ])
      refine wpAnyH_take1 (i := 12) (oi := _) (v := ?_) (by kernel_rfl) rfl (by kernel_rfl) (fun _ _ _ h => h) (Or.inl ⟨by rfl, ?_⟩) (by assumption) ?_
      rotate_left 1
      · intro w hSw; (try dsimp only at hSw); go_simp; (with_reducible rfl)
      (try simp only [Act.put, List.getElem_toArray, List.getElem_cons_zero, List.getElem_cons_succ, List.setIfInBounds_toArray, List.set_cons_zero, List.set_cons_succ])
      refine wpAnyH_done (by kernel_rfl) ?_ _
      refine (show Oper.wp _ _ _ _ _ _ from ?_)
      clear hHeld
      go_simp
      refine NoPanic.normal ?_
      go_wp2_with fail
      go_roundw
      case rel =>
        refine ⟨k + 1, .slice ao5 (Q.length + 1) cap5, by go_num, hlt, Lib.hid ?_, Lib.hid ?_, Lib.hid ?_⟩
        · exact ((hrow.out.at (B5.out.block _ (show w.heap.size + 1 + 1 < W.heap.size by omega))).set 0 _)
        · rw [hst.out]
          exact own_set (by simpa using H5.out) (by omega) fun b h => by have := h.2; omega
        · exact gr_trans (gr_of hgr.out B5.out) (gr_set _ _ _ _)
      case measure => simp [intOf]; omega
    · obtain rfl : k = ls.length := by omega
      have HOa := Lib.hid (show Own (seqE cellE) (fun b => S b ∧ b < w.heap.size) W.heap.size 33 wr vo (ls.map fun j => g.atoms[j]?.getD []) by have := hO.out; rwa [List.take_length] at this)
      have hkl : ¬ (ls.length : Int) < (N.length : Int) := by omega
      obtain ⟨wz, rfl⟩ : ∃ wz, wz = wr := ⟨_, rfl⟩
      clear hO hlt hk
      go_wp2_with fail
      go_loopw [7] (fun i wr => ∃ (k : Nat) (vb : Value), i = .int .i64 k ∧ k ≤ g.rules.length ∧ Hid (Row 26 wr (w.heap.size + 1 + 1) [vo, vb]) ∧ Hid (Own ruleE (fun b => wz.heap.size ≤ b) wz.heap.size 46 wr vb (onlyTo g ls k)) ∧ Hid (wz.grownBy wr (some (w.heap.size + 1 + 1)))) (fun i _ => g.rules.length - (intOf i).toNat)
      case atStart => exact ⟨0, _, rfl, Nat.zero_le _, hrow, Lib.hid (Own.nil _ _ _ _ _), Lib.hid (gr_refl _ _)⟩
      case round =>
        clear hkl
        obtain ⟨k, vb, rfl, hk, hrow2, hO, hgr2⟩ := hrel
        have hzr2 := hgr2.out.size
        have hzz : w.heap.size + 3 ≤ wz.heap.size := by omega
        have hbw2 := Lib.hid (hbw.out.trans (gr_below hgr2.out (B := w.heap.size) (by omega) (by omega)))
        have HPr2 := Lib.hid (HPr.out.at (hgr2.out.block _ HPr.out.lt (by simp <;> omega)))
        have HZr2 := Lib.hid (HZr.out.at (hgr2.out.block _ HZr.out.lt (by simp)))
        have d1 := HPr2.out.cell (j := 1) (by simp)
        simp only [List.getElem_cons_zero, List.getElem_cons_succ] at d1
        by_cases hlt : k < g.rules.length
        · obtain ⟨_, _, ee, -, -, -, -, x5⟩ := (HRl.out.at hbw2.out)
          simp only [Value.slice.injEq, true_and] at ee
          obtain ⟨rfl, rfl⟩ := ee
          obtain ⟨b, off, pa, pc, na, nc, rfl, -, hb, hc0, hc1, hc2, hiok, hX, hY⟩ := x5.rule hlt
          have HX := Lib.hid hX
          have HY := Lib.hid hY
          have hyes := Lib.hid (onlyTo_yes (g := g) (ls := ls) hlt)
          have hnot := Lib.hid (onlyTo_no (g := g) (ls := ls) hlt)
          have hlt3 := (Hlits.out _ (List.getElem_mem hlt))
          have hlpos := hlt3.1
          have hlneg := hlt3.2
          have hkl : (k : Int) < (g.rules.length : Int) := by omega
          have hk0 : (0 : Int) ≤ (k : Int) := by omega
          have hol := onlyTo_len g ls k
          obtain ⟨r, hr⟩ : ∃ r, r = g.rules[k] := ⟨_, rfl⟩
          rw [← hr] at hc0 hc1 hc2 HX HY hyes hnot hlpos hlneg
          obtain ⟨O, hOe⟩ : ∃ O, O = onlyTo g ls k := ⟨_, rfl⟩
          rw [← hOe] at hO hol hyes hnot
          obtain ⟨oa, oc, rfl, -, -⟩ := hO.out.shape
          obtain ⟨wy, rfl⟩ : ∃ wy, wy = wr := ⟨_, rfl⟩
          obtain ⟨W1, hW1⟩ : ∃ W1, W1 = wy.alloc (.cells #[.int .i64 r.head, .slice pa r.pos.length pc, .slice na r.neg.length nc] 46) := ⟨_, rfl⟩
          have B1 := Lib.hid (show Below wy.heap.size wy W1 by rw [hW1]; exact Seq.way)
          have hz11 : W1.heap.size ≤ wy.heap.size + 1 := by rw [hW1]; simp
          have hz12 : wy.heap.size + 1 ≤ W1.heap.size := by rw [hW1]; simp
          have HQ := Lib.hid (show Row 46 W1 wy.heap.size [.int .i64 r.head, .slice pa r.pos.length pc, .slice na r.neg.length nc] by rw [hW1]; exact Row.new wy [_, _, _] _ rfl)
          have HW1 := Lib.hid hW1
          clear hX hY hr x5 hW1 hlt3 hOe
          go_upto_region 10 with fail
          rw [← HW1.out]
          have f0 := HQ.out.cell (j := 0) (by simp)
          have f1 := HQ.out.cell (j := 1) (by simp)
          have f2 := HQ.out.cell (j := 2) (by simp)
          have lQ := HQ.out.lt
          simp only [List.getElem_cons_zero, List.getElem_cons_succ] at f0 f1 f2
          have hbW1 := Lib.hid (below_step B1.out hbw2.out)
          go_wp2_with fail
          refine (InT_spec (HL.out.at hbW1.out)).mono ?_
          rintro e _ ⟨rfl, rfl⟩
          have hdi : decide (r.head ∈ N) = inLN ls r.head := by rw [HN.out, Bool.eq_iff_iff, decide_eq_true_eq]; exact mem_natsZ
          rw [hdi]
          clear hdi d1
          cases hin : inLN ls r.head with
          | false =>
            have hy' := Lib.hid (hnot.out hin)
            clear hin hyes hnot f0 f1 f2
            go_wp2_with fail
            go_roundw
            case rel => exact ⟨k + 1, _, by go_num, hlt, Lib.hid (rowTo hrow2.out B1.out), Lib.hid (by rw [hy'.out]; exact hO.out.move B1.out), Lib.hid (gr_of hgr2.out (B1.out.mono hzr2))⟩
            case measure => simp [intOf]; omega
          | true =>
            have hy' := Lib.hid (hyes.out hin)
            have hrow1 := Lib.hid (rowTo hrow2.out B1.out)
            have o1 := hrow1.out.cell (j := 1) (by simp)
            have lO := hrow1.out.lt
            simp only [List.getElem_cons_zero, List.getElem_cons_succ] at o1
            have hpr := plcZ_rng N r.head
            have hOk := Lib.hid (show onlyR ls r = ⟨plcZ N r.head, r.pos.map (plcZ N), r.neg.map (plcZ N)⟩ by
              rw [HN.out, show plcZ (natsZ ls) = plcN ls from funext (plcZ_nats ls)]
              rfl)
            have iok : IntOK (plcZ N r.head) := ⟨by omega, by omega⟩
            clear hin hyes hnot hpr
            go_upto_region 11 with fail
            have Hkeep := fun {Wk : World} (hW : Below W1.heap.size W1 Wk) => Lib.hid (show Wk.cell? ⟨w.heap.size + 1 + 1, 1, none⟩ = some (.slice oa O.length oc) ∧ Wk.cell? ⟨wy.heap.size, 0, none⟩ = some (.int .i64 r.head) ∧ Wk.cell? ⟨wy.heap.size, 1, none⟩ = some (.slice pa r.pos.length pc) ∧ Wk.cell? ⟨wy.heap.size, 2, none⟩ = some (.slice na r.neg.length nc) from ⟨(hW.cell (p := ⟨w.heap.size + 1 + 1, 1, none⟩) lO).trans o1, (hW.cell (p := ⟨wy.heap.size, 0, none⟩) lQ).trans f0, (hW.cell (p := ⟨wy.heap.size, 1, none⟩) lQ).trans f1, (hW.cell (p := ⟨wy.heap.size, 2, none⟩) lQ).trans f2⟩)
            (try simp only [List.append_eq, List.cons_append, List.nil_append])
            refine wp_region_noPanic ?_
            refine wp_region_last (S := fun w' => w'.cell? ⟨w.heap.size + 1 + 1, 1, none⟩ = some (.slice oa O.length oc) ∧ w'.cell? ⟨wy.heap.size, 0, none⟩ = some (.int .i64 r.head) ∧ w'.cell? ⟨wy.heap.size, 1, none⟩ = some (.slice pa r.pos.length pc) ∧ w'.cell? ⟨wy.heap.size, 2, none⟩ = some (.slice na r.neg.length nc)) (by kernel_rfl) ?_ rfl ?_ (fun hHeld => ?_)
            · kernel_rfl
            · exact (Hkeep (Below.drew (Below.refl _ _))).out
            dsimp only [List.dropLast]
            refine wpAnyH_take1 (i := 0) (oi := _) (v := ?_) (by kernel_rfl) rfl (by kernel_rfl) (fun _ _ _ h => h) (Or.inl ⟨by rfl, ?_⟩) (by assumption) ?_
            rotate_left 1
            · intro w hSw; (try dsimp only at hSw); go_simp; (with_reducible rfl)
            (try simp only [Act.put, List.getElem_toArray, List.getElem_cons_zero, List.setIfInBounds_toArray, List.set_cons_zero, List.set_cons_succ])
            refine wpAnyH_take1 (i := 1) (oi := _) (v := ?_) (by kernel_rfl) rfl (by kernel_rfl) (fun _ _ _ h => h) (Or.inl ⟨by rfl, ?_⟩) (by assumption) ?_
            rotate_left 1
            · intro w hSw; (try dsimp only at hSw); go_simp; (with_reducible rfl)
            (try simp only [Act.put, List.getElem_toArray, List.getElem_cons_zero, List.getElem_cons_succ, List.setIfInBounds_toArray, List.set_cons_zero, List.set_cons_succ])
            refine wpAnyH_take1 (i := 2) (oi := _) (v := ?_) (by kernel_rfl) rfl (by kernel_rfl) (fun _ _ _ h => h) (Or.inl ⟨by rfl, ?_⟩) (by assumption) ?_
            rotate_left 1
            · intro w hSw; (try dsimp only at hSw); go_simp; (with_reducible rfl)
            (try simp only [Act.put, List.getElem_toArray, List.getElem_cons_zero, List.getElem_cons_succ, List.setIfInBounds_toArray, List.set_cons_zero, List.set_cons_succ])
            refine wpAnyH_take1 (i := 3) (oi := _) (v := ?_) (by kernel_rfl) rfl (by kernel_rfl) (fun _ _ _ h => h) (Or.inl ⟨by rfl, ?_⟩) (by assumption) ?_
            rotate_left 1
            · intro w hSw; (try dsimp only at hSw); go_simp; (with_reducible rfl)
            (try simp only [Act.put, List.getElem_toArray, List.getElem_cons_zero, List.getElem_cons_succ, List.setIfInBounds_toArray, List.set_cons_zero, List.set_cons_succ])
            refine wpAnyH_take1 (i := 4) (oi := _) (v := ?_) (by kernel_rfl) rfl (by kernel_rfl) (fun _ _ _ h => h) (Or.inl ⟨by rfl, ?_⟩) (by assumption) ?_
            rotate_left 1
            · intro w hSw; (try dsimp only at hSw); go_simp; (with_reducible rfl)
            (try simp only [Act.put, List.getElem_toArray, List.getElem_cons_zero, List.getElem_cons_succ, List.setIfInBounds_toArray, List.set_cons_zero, List.set_cons_succ])
            refine wpAnyH_take1 (i := 6) (oi := _) (v := ?_) (by kernel_rfl) rfl (by kernel_rfl) (fun _ _ _ h => h) (Or.inl ⟨by rfl, ?_⟩) (by assumption) ?_
            rotate_left 1
            · intro w hSw; (try dsimp only at hSw); go_simp; (with_reducible rfl)
            (try simp only [Act.put, List.getElem_toArray, List.getElem_cons_zero, List.getElem_cons_succ, List.setIfInBounds_toArray, List.set_cons_zero, List.set_cons_succ])
            refine wpAnyH_take1 (i := 7) (oi := _) (v := ?_) (by kernel_rfl) rfl (by kernel_rfl) (fun _ _ _ h => h) (Or.inl ⟨by rfl, ?_⟩) (by assumption) ?_
            rotate_left 1
            · intro w hSw; (try dsimp only at hSw); go_simp; (with_reducible rfl)
            (try simp only [Act.put, List.getElem_toArray, List.getElem_cons_zero, List.getElem_cons_succ, List.setIfInBounds_toArray, List.set_cons_zero, List.set_cons_succ])
            refine wpAnyH_take1 (i := 8) (oi := _) (v := ?_) (by kernel_rfl) rfl (by kernel_rfl) (fun _ _ _ h => h) (Or.inl ⟨by rfl, ?_⟩) (by assumption) ?_
            rotate_left 1
            · intro w hSw; (try dsimp only at hSw); go_simp; (with_reducible rfl)
            (try simp only [Act.put, List.getElem_toArray, List.getElem_cons_zero, List.getElem_cons_succ, List.setIfInBounds_toArray, List.set_cons_zero, List.set_cons_succ])
            refine wpAnyH_take1 (i := 10) (oi := _) (v := ?_) (by kernel_rfl) rfl (by kernel_rfl) (fun _ _ _ h => h) (Or.inl ⟨by rfl, ?_⟩) (by assumption) ?_
            rotate_left 1
            · intro w hSw; (try dsimp only at hSw); go_simp; (with_reducible rfl)
            (try simp only [Act.put, List.getElem_toArray, List.getElem_cons_zero, List.getElem_cons_succ, List.setIfInBounds_toArray, List.set_cons_zero, List.set_cons_succ])
            refine wpAnyH_take1 (i := 11) (oi := _) (v := ?_) (by kernel_rfl) rfl (by kernel_rfl) (fun _ _ _ h => h) (Or.inl ⟨by rfl, ?_⟩) (by assumption) ?_
            rotate_left 1
            · intro w hSw; (try dsimp only at hSw); go_simp; (with_reducible rfl)
            (try simp only [Act.put, List.getElem_toArray, List.getElem_cons_zero, List.getElem_cons_succ, List.setIfInBounds_toArray, List.set_cons_zero, List.set_cons_succ])
            refine wpAnyH_take1 (i := 12) (oi := _) (v := ?_) (by kernel_rfl) rfl (by kernel_rfl) (fun _ _ _ h => h) (Or.inl ⟨by rfl, ?_⟩) (by assumption) ?_
            rotate_left 1
            · intro w hSw; (try dsimp only at hSw); go_simp; (with_reducible rfl)
            (try simp only [Act.put, List.getElem_toArray, List.getElem_cons_zero, List.getElem_cons_succ, List.setIfInBounds_toArray, List.set_cons_zero, List.set_cons_succ])
            refine wpAnyH_one (i := 5) (by kernel_rfl) rfl (by rfl) fun K hK => ?_
            go_simp
            refine (PlaceR_spec ((HL.out.at hbW1.out).at Seq.way)).mono ?_
            rintro e _ ⟨rfl, rfl⟩
            (try dsimp only)
            clear hHeld
            refine hK.out _ _ (Hkeep Seq.way).out fun hHeld => ?_
            clear hK K
            (try simp only [Act.put, List.getElem_toArray, List.getElem_cons_zero, List.getElem_cons_succ, List.setIfInBounds_toArray, List.set_cons_zero, List.set_cons_succ])
            refine wpAnyH_one (i := 9) (by kernel_rfl) rfl (by rfl) fun K hK => ?_
            go_simp
            refine ((anewR_spec ((HX.out.at B1.out).at Seq.way) ((HL.out.at hbW1.out).at Seq.way) (by omega))).mono ?_
            rintro e y1 ⟨_, rfl, hy1, hz1⟩
            have HY1 := below_step hy1 (Seq.way : Below W1.heap.size W1 _)
            have zy1 := HY1.size
            (try dsimp only)
            clear hHeld
            refine hK.out _ _ (Hkeep HY1).out fun hHeld => ?_
            clear hK K
            (try simp only [Act.put, List.getElem_toArray, List.getElem_cons_zero, List.getElem_cons_succ, List.setIfInBounds_toArray, List.set_cons_zero, List.set_cons_succ])
            obtain ⟨za, zc, rfl⟩ := hz1.shape
            have HZ1 := Lib.hid (show Seq intE (fun b => wy.heap.size ≤ b) y1 (.slice za r.pos.length zc) (r.pos.map (plcZ N)) by have h9 := hz1.mono (T := fun b => wy.heap.size ≤ b) (fun b h _ => by have : W1.drew.heap.size ≤ b := h; simp at this; omega) (fun _ _ _ => rfl); rwa [List.length_map] at h9)
            clear hz1
            refine wpAnyH_one (i := 13) (by kernel_rfl) rfl (by rfl) fun K hK => ?_
            go_simp
            refine ((anewR_spec ((HY.out.at B1.out).at Seq.way) ((HL.out.at hbW1.out).at Seq.way) (by omega))).mono ?_
            rintro e y2 ⟨_, rfl, hy2, hz2⟩
            have HY2 := below_step hy2 (Seq.way : Below W1.heap.size W1 _)
            have zy2 := HY2.size
            (try dsimp only)
            clear hHeld
            refine hK.out _ _ (Hkeep HY2).out fun hHeld => ?_
            clear hK K
            (try simp only [Act.put, List.getElem_toArray, List.getElem_cons_zero, List.getElem_cons_succ, List.setIfInBounds_toArray, List.set_cons_zero, List.set_cons_succ])
            obtain ⟨za2, zc2, rfl⟩ := hz2.shape
            have HZ2 := Lib.hid (show Seq intE (fun b => wy.heap.size ≤ b) y2 (.slice za2 r.neg.length zc2) (r.neg.map (plcZ N)) by have h9 := hz2.mono (T := fun b => wy.heap.size ≤ b) (fun b h _ => by have : y1.heap.size ≤ b := h; omega) (fun _ _ _ => rfl); rwa [List.length_map] at h9)
            have HZ1b := Lib.hid (HZ1.out.at hy2)
            clear hz2
            refine wpAnyH_take1 (i := 14) (oi := _) (v := ?_) (by kernel_rfl) rfl (by kernel_rfl) (fun _ _ _ h => h) (Or.inl ⟨by rfl, ?_⟩) (by assumption) ?_
            rotate_left 1
            · intro w hSw; (try dsimp only at hSw); go_simp; (with_reducible rfl)
            (try simp only [Act.put, List.getElem_toArray, List.getElem_cons_zero, List.getElem_cons_succ, List.setIfInBounds_toArray, List.set_cons_zero, List.set_cons_succ])
            refine wpAnyH_one (i := 15) (by kernel_rfl) rfl (by rfl) fun K hK => ?_
            go_simp
            (try dsimp only)
            clear hHeld
            refine hK.out _ _ (Hkeep Seq.way).out fun hHeld => ?_
            clear hK K
            (try simp only [Act.put, List.getElem_toArray, List.getElem_cons_zero, List.getElem_cons_succ, List.setIfInBounds_toArray, List.set_cons_zero, List.set_cons_succ])
            refine wpAnyH_one (i := 16) (by kernel_rfl) rfl (by rfl) fun K hK => ?_
            refine (wp_app_ruleK (S := fun b => wz.heap.size ≤ b) (Sy := fun b => wy.heap.size ≤ b) (base := wz.heap.size) (wm := wy) (y := ⟨plcZ N r.head, r.pos.map (plcZ N), r.neg.map (plcZ N)⟩)  _ _ 24 rfl Tryz.underlying24 infoRule rfl hO.out rfl (below_step Seq.way B1.out) iok (HZ1b.out.at Seq.way) (HZ2.out.at Seq.way) (fun b h _ => ⟨Nat.le_trans hzr2 h, .inr h⟩) ((Row.new _ [_, _, _] _ rfl).cell (j := 0) (by simp)) ((Row.new _ [_, _, _] _ rfl).cell (j := 1) (by simp)) ((Row.new _ [_, _, _] _ rfl).cell (j := 2) (by simp)) (by omega) hzr2 ?_)
            intro ao5 cap5 w5 hown5 hk5
            have H5 := Lib.hid hown5
            obtain ⟨q1, q2, q3, q4⟩ := hHeld
            have S5 := Lib.hid (And.intro (keepA hk5 q1 (.inl (show w.heap.size + 1 + 1 < wz.heap.size by omega))) (And.intro (keepA hk5 q2 (.inr (Nat.le_refl _))) (And.intro (keepA hk5 q3 (.inr (Nat.le_refl _))) (keepA hk5 q4 (.inr (Nat.le_refl _))))))
            have hHeld := True.intro
            have B5 := Lib.hid (Below.trans (Below.mono (Seq.way : Below W1.heap.size W1 _) (by omega)) hk5.below)
            have row5 := Lib.hid (hrow1.out.at (B5.out.block _ (show w.heap.size + 1 + 1 < wz.heap.size by omega)))
            have fz5 := row5.out.frozen 1
            have oc5 := row5.out.cell (j := 1) (by simp)
            simp only [List.getElem_cons_zero, List.getElem_cons_succ] at oc5
            clear hown5 hk5 q1 q2 q3 q4
            clear hHeld
            refine hK.out _ _ S5.out fun hHeld => ?_
            clear hK K
            (try simp only [Act.put, List.getElem_toArray, List.getElem_cons_zero, List.getElem_cons_succ, List.setIfInBounds_toArray, List.set_cons_zero, List.set_cons_succ])
            refine wpAnyH_take1 (i := 17) (oi := _) (v := ?_) (by kernel_rfl) rfl (by kernel_rfl) (fun _ _ _ h => h) (Or.inl ⟨by rfl, ?_⟩) (by assumption) ?_
            rotate_left 1
            · intro w hSw; (try dsimp only at hSw); go_simp; (with_reducible rfl)
            (try simp only [Act.put, List.getElem_toArray, List.getElem_cons_zero, List.getElem_cons_succ, List.setIfInBounds_toArray, List.set_cons_zero, List.set_cons_succ])
            refine wpAnyH_done (by kernel_rfl) ?_ _
            refine (show Oper.wp _ _ _ _ _ _ from ?_)
            clear hHeld
            go_simp
            refine NoPanic.normal ?_
            go_wp2_with fail
            go_roundw
            case rel =>
              refine ⟨k + 1, .slice ao5 (O.length + 1) cap5, by go_num, hlt, Lib.hid ?_, Lib.hid ?_, Lib.hid ?_⟩
              · exact ((hrow1.out.at (B5.out.block _ (show w.heap.size + 1 + 1 < wz.heap.size by omega))).set 1 _)
              · rw [hy'.out, hOk.out]
                exact own_set (by simpa using H5.out) (by omega) fun b h => by have : wz.heap.size ≤ b := h; omega
              · exact gr_trans (gr_of hgr2.out (Below.trans (B1.out.mono hzr2) B5.out)) (gr_set _ _ _ _)
            case measure => simp [intOf]; omega
        · obtain rfl : k = g.rules.length := by omega
          have hkl : ¬ (g.rules.length : Int) < (g.rules.length : Int) := by omega
          have he := Lib.hid (show onlyG g ls = ⟨ls.map fun j => g.atoms[j]?.getD [], onlyTo g ls g.rules.length⟩ by unfold onlyG onlyTo; rw [List.take_length])
          have hol := onlyTo_len g ls g.rules.length
          obtain ⟨O, hOe⟩ : ∃ O, O = onlyTo g ls g.rules.length := ⟨_, rfl⟩
          obtain ⟨A, hAe⟩ : ∃ A, A = ls.map fun j => g.atoms[j]?.getD [] := ⟨_, rfl⟩
          have hAl : A.length ≤ 100000 := by rw [hAe, List.length_map]; omega
          rw [← hOe] at hO hol he
          rw [← hAe] at HOa he
          have o0 := hrow2.out.cell (j := 0) (by simp)
          have o1 := hrow2.out.cell (j := 1) (by simp)
          have r0 := HZr2.out.cell (j := 0) (by simp)
          have r1 := HZr2.out.cell (j := 1) (by simp)
          simp only [List.getElem_cons_zero, List.getElem_cons_succ] at o0 o1 r0 r1
          have fz0 := HZr2.out.frozen 0
          have fz1 := HZr2.out.frozen 1
          obtain ⟨oa, oc, rfl, -, -⟩ := hO.out.shape
          obtain ⟨oa2, oc2, rfl, -, -⟩ := HOa.out.shape
          clear hOe hAe
          go_wp2_with fail
          have s0 : ((wr.setCell ⟨w.heap.size + 1, 0, none⟩ (.slice oa2 A.length oc2)).setCell ⟨w.heap.size + 1, 1, none⟩ (.slice oa O.length oc)).cell? ⟨w.heap.size + 1, 0, none⟩ = some (.slice oa2 A.length oc2) := ((HZr2.out.set 0 _).set 1 _).cell (j := 0) (by simp)
          have s1 : ((wr.setCell ⟨w.heap.size + 1, 0, none⟩ (.slice oa2 A.length oc2)).setCell ⟨w.heap.size + 1, 1, none⟩ (.slice oa O.length oc)).cell? ⟨w.heap.size + 1, 1, none⟩ = some (.slice oa O.length oc) := ((HZr2.out.set 0 _).set 1 _).cell (j := 1) (by simp)
          refine bodyPost_ret (v := .agg #[.slice oa2 A.length oc2, .slice oa O.length oc]) (by simp [results, Tryz.results65, go_sem, s0, s1]) rfl ?_
          refine ⟨_, rfl, hbw2.out.trans ((gr_below (gr_set _ _ _ _) (by omega) (by omega)).trans (gr_below (gr_set _ _ _ _) (by omega) (by simp; omega))), ?_⟩
          rw [he.out]
          refine ⟨_, _, rfl, ?_, ?_⟩
          · exact (own_set (own_set (gr_own HOa.out hgr2.out (fun b hb e => by have := (HOa.out.blk hb).1; simp at e; omega) fun b h e => by have := h.2; simp at e; omega) (by omega) fun b h => by have := h.2; omega) (by omega) fun b h => by have := h.2; omega).seq (by omega) fun b _ h => h.imp (fun h => h.1) fun h => by omega
          · exact (own_set (own_set hO.out (by omega) fun b h => by have : wz.heap.size ≤ b := h; omega) (by omega) fun b h => by have : wz.heap.size ≤ b := h; omega).seq (by omega) fun b _ h => .inr (h.elim (fun h => by have : wz.heap.size ≤ b := h; omega) fun h => by omega)
end Go.Proofs.YtaedgpcmkagpeaaGreat
