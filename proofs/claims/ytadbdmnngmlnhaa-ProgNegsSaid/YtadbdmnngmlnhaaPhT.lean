/-
  Layer 7: the walk of ProgCut.
-/
import Derived.Test.YtadbdmnngmlnhaaPhS
import Derived.Deep.Upon
import Derived.ArgAppend
namespace Go.Proofs.Ytadbdmnngmlnhaa
open Go Go.RowKit

theorem infoLit : (Try.prog.info? 47).map (fun i => (i.zero, i.size, i.bytes)) = some (some (.agg #[.bool false, .slice none 0 0]), 2, 32) := by kernel_rfl
def soT : List Cell := [⟨3, ⟨#[115, 111]⟩, 0⟩]
theorem soT_atom : atomB soT = true := by decide +kernel
theorem soT_vars : varsL soT = [] := by decide +kernel
/-- A literal of one's own. -/
theorem own_lit1 {base : Nat} {w : World} {g : Nat} {b : Bool} {u : Value} {t : List Cell} (hR : Row 47 w g [.bool b, u]) (hb : base ≤ g) (hu : Seq cellE (fun x => x ≠ g) w u t) : Own litE (fun _ => True) base 47 w (.slice (some ⟨g, 0, none⟩) 1 1) [⟨b, t⟩] := by
  refine FlatE.own (E := litE) (cap := 1) hR rfl ?_ hb rfl (Nat.le_refl _) (by unfold maxLen; omega)
  exact FlatE.single (E := litE) (x := ⟨b, t⟩) ⟨u, rfl, hu.mono (fun b h _ => ⟨trivial, h⟩) fun _ _ _ => rfl⟩

theorem len_six {l : List Value} (h : l.length = 6) : ∃ a b c d e f, l = [a, b, c, d, e, f] := by
  match l, h with
  | [a, b, c, d, e, f], _ => exact ⟨a, b, c, d, e, f, rfl⟩
section
variable {P : Program} {ops : Array Oper} {o : Oper} {a : Act} {Q : Exit → Act → World → Prop}
/-- 'append([]T{}, ys...)', at the operation itself: all that lay there is as it was. -/
theorem wp_appZ {α : Type} {E : Elt α} {S Sy : Nat → Prop} {w : World} {K : Act → World → Prop} (s x : Operand) (t : TypeId)
    (ho : o.op = .call { callee := .builtin .append, args := #[s, x], argTypes := #[t, t] })
    {base : Nat} {e : TypeId} {z : Value} {bytes : Nat} (ht : P.underlying t = some (.slice e)) (hi : (P.info? e).map (fun i => (i.zero, i.size, i.bytes)) = some (some z, E.sz, bytes))
    (hzs : z.cells.size = E.sz) {g : Nat} (hs : a.eval s = .slice (some ⟨g, 0, none⟩) 0 0) (hown : Own E S base e w (.slice (some ⟨g, 0, none⟩) 0 0) ([] : List α)) (hbase : base ≤ w.heap.size)
    {ys : List α} {ay : Option Addr} {cy : Nat} (hx : a.eval x = .slice ay ys.length cy) (hy : Seq E Sy w (.slice ay ys.length cy) ys) (hS : ∀ b, Sy b → b < w.heap.size → S b)
    (hby : bytes ≤ 100) (hbytes : ys.length ≤ 1000000000000)
    (h : ∀ base' ao cap w', base ≤ base' → base' ≤ w'.heap.size → Own E S base' e w' (.slice ao ys.length cap) ys → Below w.heap.size w w' → K (a.put o.dst (.slice ao ys.length cap)) w') : o.wp P a w K Q := by
  obtain ⟨i, hi1, hz0, hz1, hz2⟩ := info_parts hi
  obtain ⟨ay', cy', he, hy1, hy2, hy3, hy4, hy5⟩ := hy
  simp only [Value.slice.injEq, true_and] at he
  obtain ⟨rfl, rfl⟩ := he
  by_cases hn : ys = []
  · subst hn
    have hr : (Builtin.append_ #[t, t] o.type #[.slice (some ⟨g, 0, none⟩) 0 0, .slice ay 0 cy]).run P w = .ok (.slice (some ⟨g, 0, none⟩) 0 0) w := by
      refine run_append_nothing w t t o.type e i ht hi1 _ 0 0 (Nat.le_refl _) _ ⟨.inl ⟨e, ht⟩, fun w' => ?_, ?_, ?_, by simp, by simp⟩
      · simp [Builtin.lenOf]
      · cases ay <;> simp [Builtin.firstCells, loadCells, loadCellsFrom]
      · cases ay <;> simp [Builtin.firstCells, loadCells, loadCellsFrom]
    unfold Oper.wp execOp
    simp only [ho, resolve, invoke, builtin, Sem.run_bind, Sem.run_pure, Result.andThen_ok, List.map_toArray, List.map_cons, List.map_nil, hs, hx, List.length_nil, hr]
    exact h base _ _ w (Nat.le_refl _) hbase hown (Below.refl _ _)
  · cases ay with
    | none =>
      obtain rfl := hy4 rfl
      exact absurd (List.eq_nil_of_length_eq_zero (by omega)) hn
    | some ad =>
      let news : List Value := (List.range (ys.length * E.sz)).map fun j => (w.cell? (ad.add j)).getD undef
      have hnl : news.length = ys.length * E.sz := by simp [news]
      have hcell : ∀ k y, ys[k]? = some y → ∃ cs, E.R Sy w y cs ∧ ∀ j, j < E.sz → w.cell? (ad.add (k * E.sz + j)) = cs[j]? := by
        intro k y hk
        obtain ⟨b, off, cs, h1, h2, h3, h4, h5⟩ := hy5 k y hk
        simp only [Option.some.injEq] at h1
        subst h1
        refine ⟨cs, h4, fun j hj => ?_⟩
        rw [Addr.add_lit]
        exact h5 j hj
      have hnews : ∀ k y, ys[k]? = some y → ∃ cs, E.R Sy w y cs ∧ ∀ j, j < E.sz → news[k * E.sz + j]? = cs[j]? := by
        intro k y hk
        obtain ⟨cs, h1, h2⟩ := hcell k y hk
        refine ⟨cs, h1, fun j hj => ?_⟩
        have hk' := (List.getElem?_eq_some_iff.1 hk).1
        have hlt' := chunk_lt (sz := E.sz) hk' hj
        have hl := E.len h1
        have hj' : j < cs.length := by omega
        simp only [news, List.getElem?_map, List.getElem?_range hlt', Option.map_some, h2 j hj, List.getElem?_eq_getElem hj', Option.getD_some]
      have hb2 : ys.length * bytes ≤ ys.length * 100 := Nat.mul_le_mul_left _ hby
      have hpos : 0 < ys.length := by
        rcases Nat.eq_zero_or_pos ys.length with h0 | h0
        · exact absurd (List.eq_nil_of_length_eq_zero h0) hn
        · exact h0
      obtain ⟨v', w', hr, hown', hgrow⟩ := run_append_arg_grows (P := P) (w := w) t o.type e i z E.sz bytes ht hi1 hz0 hz1 hz2 hzs E.pos ⟨g, 0, none⟩ 0 0 [] (by simp) (by simp) ad ys.length cy news hnl (by
        intro j u hj
        have hj' : j < ys.length * E.sz := by have := (List.getElem?_eq_some_iff.1 hj).1; omega
        have hdm : j / E.sz < ys.length := Nat.div_lt_of_lt_mul (by rw [Nat.mul_comm]; exact hj')
        have hmod := Nat.mod_lt j E.pos
        obtain ⟨cs, h1, h2⟩ := hcell (j / E.sz) _ (List.getElem?_eq_getElem hdm)
        have hjj : j / E.sz * E.sz + j % E.sz = j := by rw [Nat.mul_comm]; exact Nat.div_add_mod j E.sz
        have h3 := h2 (j % E.sz) hmod
        rw [hjj] at h3
        have hl := E.len h1
        have hj'' : j % E.sz < cs.length := by omega
        rw [List.getElem?_eq_getElem hj''] at h3
        simp only [news, List.getElem?_map, List.getElem?_range hj', Option.map_some, h3, Option.getD_some, Option.some.injEq] at hj
        rw [h3, hj]) (by omega) (by simp only [maxLen]; omega) (by rw [Nat.zero_add]; omega)
      rw [Nat.zero_add, List.nil_append] at hown'
      obtain ⟨ao, cap, rfl, -, -⟩ := own_shape hown'
      have hbw : Below w.heap.size w w' := ⟨hgrow.os, hgrow.tape, hgrow.output, hgrow.size, fun k hk => hgrow.block k hk (by simp)⟩
      unfold Oper.wp execOp
      simp only [ho, resolve, invoke, builtin, Sem.run_bind, Sem.run_pure, Result.andThen_ok, List.map_toArray, List.map_cons, List.map_nil, hs, hx, hr]
      refine h w.heap.size ao cap w' hbase hbw.size ⟨news, hown', fun k y hk => ?_⟩ hbw
      obtain ⟨cs, h1, h2⟩ := hnews k y hk
      refine ⟨cs, E.mono h1 (fun b hb hl => ⟨hS b hb hl, fun e => ?_⟩) (fun b _ hl => hbw.block b hl), h2⟩
      have := (hown'.lt b e).1
      omega
end
set_option maxHeartbeats 12800000 in
set_option maxRecDepth 100000 in
theorem cut_spec {S S2 : Nat → Prop} {w : World} {v u : Value} {c : Cls} {a : Nat} {t : List Cell} (hc : ClsV S w v c) (ha : a < 256) (ht : Seq cellE S2 w u t) : Calls Try.prog 5 #[v, .int .u8 a, u] w (RetV (.bool true) w) := by
  obtain ⟨vh, vb, rfl, hB⟩ := hc.any.box
  obtain ⟨W, hW⟩ : ∃ W, W = w.alloc (.cells #[vh, vb] 31) := ⟨_, rfl⟩
  obtain ⟨bc, hbc⟩ : ∃ b, b = w.heap.size := ⟨_, rfl⟩
  have HBW := Lib.hid (show Below w.heap.size w W by rw [hW]; exact Seq.way)
  have HT := Lib.hid (ht.any.at HBW.out)
  obtain ⟨ta, tc, rfl⟩ := ht.shape
  rw [← hW, ← hbc] at hB
  obtain ⟨hha, hcc, la, lc, rfl, rfl⟩ := hB.shape
  have HB := Lib.hid hB
  have HW := Lib.hid hW
  have Hbc := Lib.hid hbc
  clear hW hbc hB hc ht
  have hfB := fun {w' : World} (h : Below W.heap.size W w') => Lib.hid (HB.out.at h)
  have hfT := fun {w' : World} (h : Below W.heap.size W w') => Lib.hid (HT.out.at h)
  go_enter Try.func5, Try.ntmps5
  go_upto_region 1 with fail
  rw [← HW.out, ← Hbc.out]
  go_wp2_with fail
  refine head_spec.mono ?_
  rintro e w1 ⟨rfl, hb1⟩
  have B1 := Lib.hid hb1
  obtain ⟨m0, m1, -, -, -⟩ := (hfB hb1).out
  have HL1 := Lib.hid (seq_cls1 (hfB hb1).out.clsV)
  clear hb1
  go_wp2_with fail
  refine (GreatL_spec HL1.out).mono ?_
  rintro e w2 ⟨rfl, hb2⟩
  have B2 := Lib.hid (below_step (below_step hb2 Seq.way) B1.out)
  clear hb2 m0 m1
  cases hg : greatC [c] with
  | true =>
    clear hg
    go_wp2_with fail
    go_ret
    exact ⟨rfl, below_step B2.out HBW.out⟩
  | false =>
    obtain ⟨m0, m1, -, -, -⟩ := (hfB B2.out).out
    clear hg
    go_wp2_with fail
    refine (SafeP_spec ((hfB (below_step Seq.way B2.out)).out.clsV)).mono ?_
    rintro e w3 ⟨rfl, hb3⟩
    have B3 := Lib.hid (below_step (below_step hb3 Seq.way) B2.out)
    clear hb3 m0 m1
    cases hs : safeC c with
    | false =>
      clear hs
      go_wp2_with fail
      go_ret
      exact ⟨rfl, below_step B3.out HBW.out⟩
    | true =>
      have HS := Lib.hid hs
      clear hs
      go_wp2_with fail
      refine (AtomR07_spec (hfT (below_step Seq.way B3.out)).out).mono ?_
      rintro e w4 ⟨rfl, hb4⟩
      have B4 := Lib.hid (below_step (below_step hb4 Seq.way) B3.out)
      clear hb4
      cases hat : atomB t with
      | false =>
        clear hat
        go_wp2_with fail
        go_ret
        exact ⟨rfl, below_step B4.out HBW.out⟩
      | true =>
        have HAt := Lib.hid hat
        have hbl := (mayC_parts (safeC_iff.1 HS.out).1).2.2
        obtain ⟨k, hk⟩ : ∃ k, k = a % (c.body.length + 1) := ⟨_, rfl⟩
        have hkl : k ≤ c.body.length := by have := Nat.mod_lt a (show 0 < c.body.length + 1 by omega); omega
        have hkm : (a : Int) % ((c.body.length : Int) + 1) = (k : Int) := by rw [hk, Int.natCast_emod]; simp
        have hkt : Int.tmod (a : Int) ((c.body.length : Int) + 1) = (k : Int) := by rw [← hkm]; exact Int.tmod_eq_emod_of_nonneg (by omega)
        have h0 : (((c.body.length : Int) + 1) == 0) = false := beq_eq_false_iff_ne.2 (by omega)
        have h00 : (((c.body.length : Int) + 1) = 0) = False := eq_false (by omega)
        have hk0 : (0 : Int) ≤ (k : Int) := by omega
        have hkI : (k : Int) ≤ (c.body.length : Int) := by omega
        obtain ⟨m0, m1, -, -, -⟩ := (hfB B4.out).out
        clear hat hk
        go_upto_region 7 with fail
        obtain ⟨W6, hW6⟩ : ∃ W6, W6 = (w4.alloc (.cells #[.int .i64 3, .string ⟨#[115, 111]⟩, .int .i64 0] 50)).alloc (.cells #[.bool false, .slice ta t.length tc] 47) := ⟨_, rfl⟩
        have r1 := ((Row.new w4 [.int .i64 3, .string ⟨#[115, 111]⟩, .int .i64 0] 50 rfl)).alloc (.cells #[.bool false, .slice ta t.length tc] 47)
        have r2 := Row.new (w4.alloc (.cells #[.int .i64 3, .string ⟨#[115, 111]⟩, .int .i64 0] 50)) [.bool false, .slice ta t.length tc] 47 (B := w4.heap.size + 1) (by simp)
        have hY : Below W.heap.size W W6 := by rw [hW6]; exact below_step Seq.way B4.out
        rw [← hW6] at r1 r2 ⊢
        obtain ⟨bt, hbt⟩ : ∃ b, b = w4.heap.size + 1 := ⟨_, rfl⟩
        simp only [← hbt] at r2 ⊢
        obtain ⟨bg, hbg⟩ : ∃ b, b = w4.heap.size := ⟨_, rfl⟩
        simp only [← hbg] at r1 ⊢
        have HG := Lib.hid (show Seq cellE (fun _ => True) W6 (.slice (some ⟨bg, 0, none⟩) 1 1) soT from seq_cells (cs := soT) r1 (fun x hx => by
          rw [show soT = [⟨3, ⟨#[115, 111]⟩, 0⟩] from rfl, List.mem_singleton] at hx; subst hx; exact ⟨nOK 3 (by omega), nOK 0 (by omega), by show (2 : Nat) ≤ _; decide⟩) rfl (by decide))
        have HRt := Lib.hid (show RowA 47 W6 bt [.bool false, .slice ta t.length tc] from r2)
        have HY := Lib.hid hY
        clear r1 r2 hY hW6 hbt hbg m0 m1
        have hfR := fun {w' : World} (h : Below W6.heap.size W6 w') => Lib.hid (show w'.cell? ⟨bt, 0, none⟩ = some (.bool false) ∧ w'.cell? ⟨bt, 1, none⟩ = some (.slice ta t.length tc) from ⟨(HRt.out.at h).row.cell (j := 0) (by simp), (HRt.out.at h).row.cell (j := 1) (by simp)⟩)
        obtain ⟨n0, n1⟩ := (hfR (Below.refl _ W6)).out
        obtain ⟨m0, m1, hbcl, -, hbs⟩ := (hfB HY.out).out
        have hown : Own litE (fun _ => True) W6.heap.size 47 (W6.alloc (.cells #[.bool false, .slice ta t.length tc] 47)) (.slice (some ⟨W6.heap.size, 0, none⟩) 1 1) [⟨false, t⟩] :=
          own_lit1 (Row.new W6 [_, _] _ rfl) (Nat.le_refl _) (((hfT HY.out).out.bnd.at Seq.way).mono (fun b h _ => by have := h.2; omega) fun _ _ _ => rfl)
        have hbd := Lib.hid (hbs.bnd.at (Seq.way : Below W6.heap.size W6 (W6.alloc (.cells #[.bool false, .slice ta t.length tc] 47))))
        have m1a : (W6.alloc (.cells #[.bool false, .slice ta t.length tc] 47)).cell? ⟨bc, 1, none⟩ = _ := (Below.cell (Seq.way : Below W6.heap.size W6 _) (p := ⟨bc, 1, none⟩) hbcl).trans m1
        clear hbs
        go_wp2_with (at_builtin; (refine wpList_appL (E := litE) (S := fun _ => True) (wm := W6.alloc (.cells #[.bool false, .slice ta t.length tc] 47)) (zs := (⟨false, t⟩ : Lit) :: c.body) rfl _ _ 29 rfl Try.underlying29 infoLit rfl rfl hown (Below.refl _ _) rfl hbd.out (fun b h _ => ⟨trivial, .inl h.2⟩) rfl (by omega) (by simp; omega) (by simp) ?_))
        intro ao7 cap7 w7 hown7 hk7
        have O7 := Lib.hid hown7
        have K7 := Lib.hid ((Seq.way : Below W6.heap.size W6 (W6.alloc (.cells #[.bool false, .slice ta t.length tc] 47))).trans hk7.below)
        clear hown7 hk7 hown hbd n0 n1 m0 m1 m1a
        go_upto_region 8 with fail
        have hk : ∀ {X : World}, Below w7.heap.size w7 X → X.cell? ⟨bt, 0, none⟩ = some (.bool false) ∧ X.cell? ⟨bt, 1, none⟩ = some (.slice ta t.length tc) ∧ X.cell? ⟨bc, 1, none⟩ = some (.slice la c.body.length lc) := fun h =>
          ⟨((hfR (below_step h K7.out)).out).1, ((hfR (below_step h K7.out)).out).2, (hfB (below_step (below_step h K7.out) HY.out)).out.2.1⟩
        have hbv : ∀ {X : World}, Below w7.heap.size w7 X → Seq litE (fun _ => True) X (.slice la c.body.length lc) c.body := fun h => (hfB (below_step (below_step h K7.out) HY.out)).out.2.2.2.2
        have hD0 : ∃ A : Value → World → Prop, A = fun v w' => ∃ g, v = .slice (some ⟨g, 0, none⟩) 0 0 ∧ w7.heap.size ≤ g ∧ Own litE (fun _ => True) w7.heap.size 47 w' (.slice (some ⟨g, 0, none⟩) 0 0) ([] : List Lit) := ⟨_, rfl⟩
        obtain ⟨D0, hD0⟩ := hD0
        have hD3 : ∃ A : Value → World → Prop, A = fun v w' => ∃ base ao cap, v = .slice ao c.body.length cap ∧ w7.heap.size ≤ base ∧ base ≤ w'.heap.size ∧ Own litE (fun _ => True) base 47 w' v c.body := ⟨_, rfl⟩
        obtain ⟨D3, hD3⟩ := hD3
        have hD5 : ∃ B : Value → World → Prop, B = fun u w' => ∃ g, u = .slice (some ⟨g, 0, none⟩) 1 1 ∧ Row 47 w' g [.bool false, .slice ta t.length tc] := ⟨_, rfl⟩
        obtain ⟨D5, hD5⟩ := hD5
        refine wp_region_noPanic ?_
        refine wp_region_held_drew (S := fun _ => True) (by kernel_rfl) trivial (fun hHeld => ?_)
        clear hHeld
        refine wpAnyH_flow' (f := 2) [0, 1, 2, 3, 4, 5] [45, 46, 47, 48, 49, 50] [[], [], [1], [0, 2], [], [4]]
          [D0, fun v _ => v = .pointer (some ⟨bc, 1, none⟩), fun v _ => v = .slice la c.body.length lc, D3, fun v _ => v = .agg #[.bool false, .slice ta t.length tc], D5]
          (by kernel_rfl) rfl (by decide) [undef, undef, undef, undef, undef, undef] rfl (by rfl) ?_ (fun _ _ => trivial) ?_ ?_
        · intro D hD v y z hDv hyz
          simp only [List.mem_cons, List.not_mem_nil, or_false] at hD
          rcases hD with rfl | rfl | rfl | rfl | rfl | rfl
          · rw [hD0] at hDv ⊢
            obtain ⟨g, e, h1, h2⟩ := hDv
            exact ⟨g, e, h1, h2.move hyz⟩
          · exact hDv
          · exact hDv
          · rw [hD3] at hDv ⊢
            obtain ⟨base, ao, cap, e, h1, h2, h3⟩ := hDv
            exact ⟨base, ao, cap, e, h1, Nat.le_trans h2 hyz.size, h3.move hyz⟩
          · exact hDv
          · rw [hD5] at hDv ⊢
            obtain ⟨g, e, hg⟩ := hDv
            exact ⟨g, e, hg.below hyz hg.lt⟩
        · intro k2 hk2 vs y hvs hby0 hdeps
          have hby : Below w7.heap.size w7 y := Below.trans (Seq.way : Below w7.heap.size w7 w7.drew) hby0
          obtain ⟨n0, n1, n2⟩ := hk hby
          obtain ⟨v0, v1, v2, v3, v4, v5, rfl⟩ := len_six hvs
          simp only [putsL, Act.put, List.setIfInBounds_toArray, List.set_cons_zero, List.set_cons_succ]
          rcases (show k2 = 0 ∨ k2 = 1 ∨ k2 = 2 ∨ k2 = 3 ∨ k2 = 4 ∨ k2 = 5 by simp at hk2; omega) with rfl | rfl | rfl | rfl | rfl | rfl
          · refine ⟨_, rfl, by rfl, fun K hK => ?_⟩
            go_simp
            refine hK.out _ _ Seq.way (holds_of (D := D0) rfl ?_)
            rw [hD0]
            exact ⟨_, rfl, hby.size, Own.lit0 rfl hby.size rfl⟩
          · refine ⟨_, rfl, by rfl, fun K hK => ?_⟩
            go_simp
            exact hK.out _ _ (Below.refl _ _) (holds_of rfl rfl)
          · have hd := hdeps 1 (by simp) v1 rfl _ rfl
            subst hd
            refine ⟨_, rfl, by rfl, fun K hK => ?_⟩
            go_simp
            exact hK.out _ _ (Below.refl _ _) (holds_of rfl rfl)
          · have hd := hdeps 0 (by simp) v0 rfl D0 rfl
            rw [hD0] at hd
            obtain ⟨g, rfl, hg1, hg2⟩ := hd
            have hd2 := hdeps 2 (by simp) v2 rfl _ rfl
            subst hd2
            refine ⟨_, rfl, by rfl, fun K hK => ?_⟩
            refine wp_appZ (E := litE) (S := fun _ => True) _ _ 29 rfl Try.underlying29 infoLit rfl rfl hg2 hby.size rfl (hbv hby) (fun _ _ _ => trivial) (by omega) (by omega) ?_
            intro base' ao cap w' h1 h2 h3 h4
            refine hK.out _ _ h4 (holds_of (D := D3) rfl ?_)
            rw [hD3]
            exact ⟨base', ao, cap, rfl, h1, h2, h3⟩
          · refine ⟨_, rfl, by rfl, fun K hK => ?_⟩
            go_simp
            exact hK.out _ _ (Below.refl _ _) (holds_of rfl rfl)
          · have hd := hdeps 4 (by simp) v4 rfl _ rfl
            subst hd
            refine ⟨_, rfl, by rfl, fun K hK => ?_⟩
            go_simp
            refine hK.out _ _ Seq.way (holds_of (D := D5) rfl ?_)
            rw [hD5]
            exact ⟨_, rfl, Row.new _ [_, _] _ rfl⟩
        intro vs w8 hvs hby0 hhas
        have hb78 : Below w7.heap.size w7 w8 := Below.trans (Seq.way : Below w7.heap.size w7 w7.drew) hby0
        obtain ⟨v0, v1, v2, v3, v4, v5, rfl⟩ := len_six hvs
        have x3 := hhas 3 v3 rfl D3 rfl
        have x5 := hhas 5 v5 rfl D5 rfl
        rw [hD3] at x3
        rw [hD5] at x5
        obtain ⟨base, va, vc, rfl, hb0, hb0', hown8⟩ := x3
        obtain ⟨g, rfl, hg⟩ := x5
        have hc0 := hg.cell (j := 0) (by simp)
        have hc1 := hg.cell (j := 1) (by simp)
        have HT8 := Lib.hid (hfT (below_step (below_step hb78 K7.out) HY.out)).out
        have Hb78 := Lib.hid hb78
        have Hown8 := Lib.hid hown8
        clear hhas hD0 hD3 hD5 D0 D3 D5 hown8 hg hb78 hby0 hvs hk hbv
        simp only [putsL, Act.put, List.setIfInBounds_toArray, List.set_cons_zero, List.set_cons_succ]
        refine wpAnyH_one (i := 6) (by kernel_rfl) rfl (by rfl) fun K hK => ?_
        refine wp_app1 (E := litE) (S := fun _ => True) (Sy := fun b => b < w8.heap.size ∧ b < base) (base := base) (wm := w8) (y := ⟨false, t⟩) (cs := [.bool false, .slice ta t.length tc]) (.tmp 48) (.tmp 50) 29 rfl Try.underlying29 infoLit rfl rfl Hown8.out (Below.refl _ _) _ _ rfl ⟨_, rfl, ?_⟩ (fun b h _ => ⟨trivial, .inl h.2⟩) (fun j hj => ?_) (by omega) (by simp only [maxLen]; omega) hb0' ?_
        · exact (hfT HY.out).out.bnd.mono (fun b h _ => ⟨by have := h.2; have := K7.out.size; have := Hb78.out.size; omega, by have := h.2; have := K7.out.size; omega⟩) fun b h hl => (below_step Hb78.out K7.out).block b hl
        · have h3 : j < 2 := hj
          rcases (show j = 0 ∨ j = 1 by omega) with rfl | rfl
          · exact hc0
          · exact hc1
        intro ao9 cap9 w9 hown9 hk9
        have B9 := Lib.hid (show Below W6.heap.size W6 w9 from (below_step Hb78.out K7.out).trans (hk9.below.mono (by have := K7.out.size; omega)))
        have O9 := Lib.hid hown9
        have C79 := Lib.hid (show Below w7.heap.size w7 w9 from Hb78.out.trans (hk9.below.mono hb0))
        refine hK.out _ _ trivial fun hHeld => ?_
        clear hK K hown9 hk9
        (try simp only [Act.put, List.getElem_toArray, List.getElem_cons_zero, List.getElem_cons_succ, List.setIfInBounds_toArray, List.set_cons_zero, List.set_cons_succ])
        refine wpAnyH_one (i := 7) (by kernel_rfl) rfl (by rfl) fun K hK => ?_
        go_simp
        (try dsimp only)
        refine hK.out _ _ trivial fun hHeld2 => ?_
        clear hK K hHeld hHeld2
        (try simp only [Act.put, List.getElem_toArray, List.getElem_cons_zero, List.getElem_cons_succ, List.setIfInBounds_toArray, List.set_cons_zero, List.set_cons_succ])
        refine wpAnyH_done (by kernel_rfl) ?_ _
        refine NoPanic.normal ?_
        have Q9 := Lib.hid (show Seq litE (fun _ => True) w9 (.slice ao9 (c.body.length + 1) cap9) (c.body ++ [⟨false, t⟩]) from by have := O9.out.seq (T := fun _ => True) (by simp; omega) fun _ _ _ => trivial; simpa using this)
        have Q7 := Lib.hid (show Seq litE (fun _ => True) w7 (.slice ao7 (c.body.length + 1) cap7) (⟨false, t⟩ :: c.body) from by have := O7.out.seq (T := fun _ => True) (by simp; omega) fun _ _ _ => trivial; simpa using this)
        have Q79 := Lib.hid (Q7.out.at C79.out)
        clear O9 O7 Q7 Hown8 HT8 Hb78
        have D9 := Lib.hid (below_step B9.out HY.out)
        have G9 := Lib.hid (HG.out.at B9.out)
        have hs1 := Lib.hid (safe_take HS.out k soT_atom soT_vars)
        have hs2 := Lib.hid (safe_ahead HS.out HAt.out)
        have hs3 := Lib.hid (safe_behind HS.out HAt.out)
        have htk : (c.body.take k).length = k := by rw [List.length_take]; omega
        obtain ⟨m0, m1, -, m3, m4⟩ := (hfB D9.out).out
        have hklc : k ≤ lc := by obtain ⟨_, _, he, h1, _⟩ := m4; simp only [Value.slice.injEq, true_and] at he; omega
        have V1 := Lib.hid (show ClsV (fun _ => True) w9 (.agg #[.slice (some ⟨bg, 0, none⟩) 1 1, .slice la k lc]) ⟨soT, c.body.take k⟩ from ⟨some ⟨bg, 0, none⟩, 1, la, lc, by show _ = Value.agg #[_, .slice la (c.body.take k).length lc]; rw [htk]; rfl, G9.out, by rw [htk]; exact m4.take hkl⟩)
        obtain ⟨room, hroom⟩ : ∃ r, r = decide (c.body.length < 8) := ⟨_, rfl⟩
        have hrI : decide ((c.body.length : Int) < 8) = room := by rw [hroom]; exact decide_eq_decide.2 (by omega)
        rw [← hroom] at hs2 hs3
        clear hroom htk m3 m4 hbl
        go_wp2_with fail
        refine (SafeP_spec (V1.out.at Seq.way)).mono ?_
        rw [hs1.out]
        rintro e w10 ⟨rfl, hb10⟩
        have B10 := Lib.hid (below_step hb10 Seq.way)
        clear hb10 m0 m1
        obtain ⟨m0, m1, -, m3, -⟩ := (hfB (below_step B10.out D9.out)).out
        have V2 := Lib.hid (show ClsV (fun _ => True) w10 (.agg #[.slice hha c.head.length hcc, .slice ao7 (c.body.length + 1) cap7]) ⟨c.head, ⟨false, t⟩ :: c.body⟩ from ⟨hha, hcc, ao7, cap7, rfl, m3, Q79.out.at B10.out⟩)
        clear m3
        go_wp2_with fail
        refine (SafeP_spec (V2.out.at Seq.way)).mono ?_
        rw [hs2.out]
        rintro e w11 ⟨rfl, hb11⟩
        have B11 := Lib.hid (below_step (below_step hb11 Seq.way) B10.out)
        clear hb11 m0 m1
        obtain ⟨m0, m1, -, m3, -⟩ := (hfB (below_step B11.out D9.out)).out
        have V3 := Lib.hid (show ClsV (fun _ => True) w11 (.agg #[.slice hha c.head.length hcc, .slice ao9 (c.body.length + 1) cap9]) ⟨c.head, c.body ++ [⟨false, t⟩]⟩ from ⟨hha, hcc, ao9, cap9, by simp, m3, by have := Q9.out.at B11.out; simpa using this⟩)
        clear m3
        go_wp2_with fail
        refine (SafeP_spec (V3.out.at Seq.way)).mono ?_
        rw [hs3.out]
        rintro e w12 ⟨rfl, hb12⟩
        have B12 := Lib.hid (below_step (below_step hb12 Seq.way) B11.out)
        clear hb12 m0 m1
        go_wp2_with fail
        go_ret
        exact ⟨ret_bool (by simp), below_step (below_step B12.out D9.out) HBW.out⟩
end Go.Proofs.Ytadbdmnngmlnhaa
