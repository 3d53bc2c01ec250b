/-
  The program: Insert into a row of one's own: behind all, where there is room, where there is none.
-/
import Derived.Test.YtceipnlpofebmaaTmV
namespace Go.Proofs.Ytceipnlpofebmaa
open Go Go.RowKit

set_option maxHeartbeats 1600000 in
set_option maxRecDepth 100000 in
/-- Behind all. -/
theorem insert_last {S Sy : Nat → Prop} {base : Nat} {wm w : World} {v vn : Value} {l : List (List Cell)} {t : List Cell} {vb : Nat} (hown : Own (seqE cellE) S base 24 wm v l) (hbw : Below wm.heap.size wm w) (hbase : base ≤ wm.heap.size)
    (hV : Row 24 w vb [vn]) (hn : Seq cellE Sy w vn t) (hS : ∀ b, Sy b → b < w.heap.size → S b ∧ (b < base ∨ wm.heap.size ≤ b)) (hlen : l.length ≤ 1000000000) :
    Calls Try.prog 19 #[v, .int .i64 l.length, .slice (some ⟨vb, 0, none⟩) 1 1] w (fun e w' => ∃ o, e = .returned o ∧ Below base w w' ∧ Own (seqE cellE) S base 24 w' o (l ++ [t])) := by
  obtain ⟨oa, oc, rfl, hoc, hom⟩ := hown.shape
  have Hown := Lib.hid hown
  have cv := hV.cell (j := 0) (by simp)
  simp only [List.getElem_cons_zero] at cv
  have hlv := hV.lt
  have Hn := Lib.hid hn
  clear hown hn
  by_cases hc : oc = l.length
  all_goals
    go_enter Try.func19, Try.ntmps19
    go_wp2_with (at_builtin; refine wpList_app_seq (E := cellE) (S := S) (Sy := Sy) (base := base) (wm := wm) (vy := vn) (y := t) rfl (.tmp 23) (.tmp 24) 22 rfl Try.underlying22 infoSeq rfl Hown.out rfl hbw Hn.out hS (by go_simp) (by omega) hbase ?_)
    intro ao2 cap2 w2 hown2 hk2
    have H2 := Lib.hid hown2
    have K2 := Lib.hid hk2.below
    clear hown2 hk2
    go_wp2_with fail
    go_ret
    exact ⟨_, rfl, K2.out, by simpa using H2.out⟩

/-- Where there is room. -/
theorem insert_room {S Sy : Nat → Prop} {base : Nat} {wm w : World} {v vn : Value} {l : List (List Cell)} {t : List Cell} {vb i : Nat} (hown : Own (seqE cellE) S base 24 wm v l) (hbw : Below wm.heap.size wm w) (hbase : base ≤ wm.heap.size)
    (hV : Row 24 w vb [vn]) (hvb : wm.heap.size ≤ vb) (hn : Seq cellE Sy w vn t) (hS : ∀ b, Sy b → b < w.heap.size → S b ∧ (b < base ∨ wm.heap.size ≤ b)) (hi : i < l.length)
    {oa : Option Addr} {n cap : Nat} (hv : v = .slice oa n cap) (hroom : n < cap) :
    Calls Try.prog 19 #[v, .int .i64 i, .slice (some ⟨vb, 0, none⟩) 1 1] w (fun e w' => ∃ o, e = .returned o ∧ Below base w w' ∧ Own (seqE cellE) S base 24 w' o (l.take i ++ [t] ++ l.drop i)) := by
  have hlt := fun {b : Nat} (h : v.ownBlock = some b) => (hown.blk h).2
  obtain ⟨g, cap', cur, rfl, hg, hc, hm, hcl, hR, hF⟩ := (hown.move hbw).flatT (by intro e; rw [e] at hi; simp at hi)
  have hgl : g < wm.heap.size := hlt rfl
  simp only [Value.slice.injEq] at hv
  obtain ⟨-, rfl, rfl⟩ := hv
  have h1 : vn.oneCell' = true := by obtain ⟨ao, c, rfl, -⟩ := hn; rfl
  have hne : vb ≠ g := by omega
  refine (insert_mid hR hcl hroom hi hm hV hne h1 hF.one).mono ?_
  rintro e w' ⟨rfl, hgr, cur', hR', hl', ht'⟩
  refine ⟨_, rfl, grown_below hgr hg (Nat.le_trans hbase hbw.size), ?_⟩
  refine FlatT.own hR' (by simp; omega) ?_ hg hl' (by omega) hm
  rw [ht']
  have hF' := hF.mono (w' := w') (T := fun b => S b ∧ b ≠ g) (fun _ h _ => h) fun b hb hl => hgr.block b hl (fun e => hb.2 (by have e' : g = b := (by simpa using e.symm); exact e'.symm))
  have hn' := hn.mono (w' := w') (T := fun b => S b ∧ b ≠ g) (fun b hb hl => ⟨(hS b hb hl).1, fun e => by rcases (hS b hb hl).2 with h | h <;> omega⟩) fun b hb hl => hgr.block b hl (fun e => by
    have e' : b = g := by simpa using e
    rcases (hS b hb hl).2 with h | h <;> omega)
  have e1 : (cur.take i) = (cur.take l.length).take i := by rw [List.take_take]; congr 1; omega
  rw [e1]
  exact ((hF'.take i).append (FlatT.single hn')).append (hF'.drop i)

theorem splice_grow {A B : List Value} {x : Value} {i C n : Nat} (hA : A.length = i) (hB : B.length = n - i) (hi : i < n) (_ : n + 1 ≤ C) :
    (splice (splice (A ++ List.replicate (C - i) (.slice none 0 0)) i [x]) (i + 1) B).take (n + 1) = A ++ [x] ++ B := by
  have e1 : splice (A ++ List.replicate (C - i) (.slice none 0 0)) i [x] = (A ++ [x]) ++ List.replicate (C - (i + 1)) (.slice none 0 0) := by
    unfold splice
    rw [List.take_left' hA, List.drop_append, hA]
    have : (A.drop (i + [x].length)) = [] := List.drop_eq_nil_of_le (by simp; omega)
    rw [this, List.nil_append, List.drop_replicate, List.append_assoc]
    congr 3
    simp; omega
  have e2 : (A ++ [x] ++ List.replicate (C - (i + 1)) (Value.slice none 0 0)).take (i + 1) = A ++ [x] := List.take_left' (by simp; omega)
  rw [e1, splice, e2, ← List.append_assoc]
  exact List.take_left' (by simp; omega)
theorem zeroCells_one (z : Value) (n : Nat) : Builtin.zeroCells #[z] n = (List.replicate n z).toArray := by
  apply Array.ext
  · simp [Builtin.zeroCells]
  · intro i h1 h2
    simp [Builtin.zeroCells, Nat.mod_one]

section
variable {P : Program} {ops : Array Oper} {rest : List Oper} {o : Oper} {a : Act} {w : World} {Q : Exit → Act → World → Prop}
theorem wpList_append_run (hgd : o.guard = none) (s x : Operand) (t tx : TypeId) (ho : o.op = .call { callee := .builtin .append, args := #[s, x], argTypes := #[t, tx] }) {vs vx v : Value} {w' : World}
    (hs : a.eval s = vs) (hx : a.eval x = vx) (hrun : ∀ ty, (Builtin.append_ #[t, tx] ty #[vs, vx]).run P w = .ok v w') (hK : wpList P ops Q rest (a.put o.dst v) w') : wpList P ops Q (o :: rest) a w := by
  refine wpList_plain hgd fun K' hK' => ?_
  unfold Oper.wp
  simp [execOp, ho, resolve, invoke, builtin, hs, hx, hrun, Result.andThen]
  exact hK' _ _ hK
end

set_option maxHeartbeats 4000000 in
set_option maxRecDepth 1000000 in
/-- Where there is none. -/
theorem insert_grow {w : World} {g n i vb : Nat} {cur : List Value} {x : Value} (hR : Row 24 w g cur) (hcl : cur.length = n) (hi : i < n) (hm : n ≤ 1000000) (hV : Row 24 w vb [x]) (h1 : x.oneCell' = true) (h2 : ∀ u ∈ cur, u.oneCell' = true) :
    Calls Try.prog 19 #[.slice (some ⟨g, 0, none⟩) n n, .int .i64 i, .slice (some ⟨vb, 0, none⟩) 1 1] w
      (fun e w' => ∃ cap, e = .returned (.slice (some ⟨w.heap.size, 0, none⟩) (n + 1) cap) ∧ Below w.heap.size w w' ∧ cap ≤ maxLen ∧ n + 1 ≤ cap ∧ ∃ cur', Row 24 w' w.heap.size cur' ∧ cur'.length = cap ∧ cur'.take (n + 1) = cur.take i ++ [x] ++ cur.drop i) := by
  obtain ⟨i0, hi0, hz0, hz1, hz2⟩ := info_parts infoSeq
  have hsz : (Try.prog.info? 24).map (·.size) = some 1 := by rw [hi0]; simp [hz1]
  obtain ⟨C, hC⟩ : ∃ C, C = grownCap w (n + 1) n 24 := ⟨_, rfl⟩
  have hC1 : n + 1 ≤ C := by rw [hC]; exact grownCap_ge _ _ _ _
  have hC2 : C ≤ maxLen := by rw [hC]; exact grownCap_le_maxLen _ _ _ _ (by simp only [maxLen]; omega)
  have hcell : ∀ j, j < n → w.cell? ⟨g, j, none⟩ = cur[j]? := by
    intro j hj
    rw [hR.cell (j := j) (by omega), List.getElem?_eq_getElem (by omega : j < cur.length)]
  have hlA : (cur.take i).length = i := by rw [List.length_take]; omega
  obtain ⟨W1, hW1⟩ : ∃ W1, W1 = w.drew.alloc (.cells (cur.take i ++ List.replicate (C - i) (Value.slice none 0 0)).toArray 24) := ⟨_, rfl⟩
  have happ : ∀ ty, Sem.run Try.prog (Builtin.append_ #[22, 3] ty #[.slice (some ⟨g, 0, none⟩) i n, .int .i64 ((n : Int) + 1 - (i : Int))]) w = .ok (.slice (some ⟨w.heap.size, 0, none⟩) (n + 1) C) W1 := by
    intro ty
    have hnx := nextslicecap_le (need := n + 1) (old := n) (by omega)
    have hf := run_firstCells_some (P := Try.prog) (w := w.drew) 1 i ⟨g, 0, none⟩ i n (cur.take i) (by rw [hlA, Nat.mul_one]) (fun j v hv => by
      have hj := (List.getElem?_eq_some_iff.1 hv).1
      rw [hlA] at hj
      rw [Addr.add_lit, Nat.zero_add, show w.drew.cell? = w.cell? from rfl, hcell j (by omega), ← hv, List.getElem?_take_of_lt hj])
    have hl := Lib.run_append_grow_zeros (P := Try.prog) w 22 3 ty 24 i0 (.slice none 0 0) .i64 .i64 Try.underlying22 Try.underlying3 hi0 hz0 (some ⟨g, 0, none⟩) i n (cur.take i) (by rw [hz1]; exact hf) (n + 1 - i) (by omega) (by rw [hz1]; omega) (by omega) (by omega) (by rw [hz2]; omega) (by
      rw [show i + (n + 1 - i) = n + 1 by omega, hz2]; omega)
    rw [show i + (n + 1 - i) = n + 1 by omega, ← hC] at hl
    rw [show ((n : Int) + 1 - (i : Int)) = ((n + 1 - i : Nat) : Int) by omega, hl, hW1]
    rw [show (Value.slice none 0 0).cells = #[Value.slice none 0 0] from rfl, zeroCells_one, zeroCells_one]
    congr 4
    rw [show C - i = (n + 1 - i) + (C - (n + 1)) by omega, ← List.replicate_append_replicate]
    simp
  have hR1 : Row 24 W1 w.heap.size (cur.take i ++ List.replicate (C - i) (Value.slice none 0 0)) := by
    rw [hW1]; exact Row.new w.drew _ _ rfl
  have hb1 : Below w.heap.size w W1 := by rw [hW1]; exact Seq.way
  have hl1 : (cur.take i ++ List.replicate (C - i) (Value.slice none 0 0)).length = C := by simp; omega
  have hVl := hV.lt
  have hgl := hR.lt
  have V1 : Row 24 W1 vb [x] := hV.below hb1 hVl
  have Rg1 : Row 24 W1 g cur := hR.below hb1 hgl
  clear hW1 hC
  obtain ⟨W2, hW2⟩ : ∃ W2, W2 = W1.setCells w.heap.size i [x] := ⟨_, rfl⟩
  have R2 : Row 24 W2 w.heap.size (splice (cur.take i ++ List.replicate (C - i) (Value.slice none 0 0)) i [x]) := by
    rw [hW2]; exact hR1.setCells (by rw [hl1]; simp; omega)
  have l2 : (splice (cur.take i ++ List.replicate (C - i) (Value.slice none 0 0)) i [x]).length = C := by rw [length_splice _ _ _ (by rw [hl1]; simp; omega)]; exact hl1
  have G2 : W1.grownBy W2 (some w.heap.size) := by rw [hW2]; exact grown_setCells _ _ _ _
  have Rg2 : Row 24 W2 g cur := Rg1.at (G2.block g (by have := hb1.size; omega) (fun e => by simp at e; omega))
  have b1 : Hid ([x].length = Nat.min 1 (n + 1 - i) * 1) := by rw [show Nat.min 1 (n + 1 - i) = 1 from Nat.min_eq_left (by omega)]; rfl
  have b2 : Hid (∀ j u, [x][j]? = some u → W1.cell? ((⟨vb, 0, none⟩ : Addr).add j) = some u) := by
    intro j u hu
    have hj := (List.getElem?_eq_some_iff.1 hu).1
    rw [Addr.add_lit, Nat.zero_add, V1.cell hj, ← hu, List.getElem?_eq_getElem hj]
  have b3 : Hid (∀ j, j < [x].length → (W1.cell? ⟨w.heap.size, i + j, none⟩).isSome = true ∧ W1.frozen? ⟨w.heap.size, i + j, none⟩ = false) := by
    intro j hj
    simp only [List.length_cons, List.length_nil] at hj
    refine ⟨?_, hR1.frozen _⟩
    rw [hR1.cell (j := i + j) (by rw [hl1]; omega)]; rfl
  have b4 : Hid (∀ u ∈ [x], u.oneCell' = true) := by
    intro u hu; simp at hu; subst hu; exact h1
  obtain ⟨cs, hcs⟩ : ∃ cs, cs = cur.drop i := ⟨_, rfl⟩
  have lcs : cs.length = n - i := by rw [hcs, List.length_drop]; omega
  have a1 : Hid (cs.length = Nat.min (n - i) (n - i) * 1) := by rw [show Nat.min (n - i) (n - i) = n - i from Nat.min_self _, Nat.mul_one]; exact lcs
  have a2 : Hid (∀ j v, cs[j]? = some v → W2.drew.cell? ((⟨g, i, none⟩ : Addr).add j) = some v) := by
    intro j v hv
    have hj := (List.getElem?_eq_some_iff.1 hv).1
    have e : cs[j]? = cur[i + j]? := by rw [hcs, List.getElem?_drop]
    rw [Addr.add_lit, show W2.drew.cell? = W2.cell? from rfl, Rg2.cell (j := i + j) (by omega), ← hv, e, List.getElem?_eq_getElem (by omega)]
  have a3 : Hid (∀ j, j < cs.length → (W2.drew.cell? ⟨w.heap.size, i + 1 + j, none⟩).isSome = true ∧ W2.drew.frozen? ⟨w.heap.size, i + 1 + j, none⟩ = false) := by
    intro j hj
    refine ⟨?_, R2.frozen _⟩
    show (W2.cell? _).isSome = true
    rw [R2.cell (j := i + 1 + j) (by rw [l2]; omega)]; rfl
  have a4 : Hid (∀ v ∈ cs, v.oneCell' = true) := by
    intro u hu
    rw [hcs] at hu
    exact h2 u (List.mem_of_mem_drop hu)
  have R3 := Lib.hid (Row.setCells (w := W2.drew) (vs := cs) (o := i + 1) (show Row 24 W2.drew w.heap.size _ from R2) (by rw [l2]; omega))
  have l3 := Lib.hid (show (splice (splice (cur.take i ++ List.replicate (C - i) (Value.slice none 0 0)) i [x]) (i + 1) cs).length = C by rw [length_splice _ _ _ (by rw [l2]; omega)]; exact l2)
  have hfin := Lib.hid (splice_grow (x := x) (C := C) hlA lcs hi hC1)
  have hB3 := Lib.hid (show Below w.heap.size w (W2.drew.setCells w.heap.size (i + 1) cs) from hb1.trans (grown_below (grown_trans G2 (grown_trans (grown_drew _ _) (grown_setCells _ _ _ _))) (Nat.le_refl _) hb1.size))
  have HW2 := Lib.hid hW2
  have Hcs := Lib.hid hcs
  have hC2' := Lib.hid hC2
  have hk0 : ((i : Int) == (n : Int)) = false := by rw [beq_eq_false_iff_ne]; omega
  have hk1 : ¬ n = i := by omega
  have hk2 : ¬ C = i := by omega
  have hk3 : ¬ C = i + 1 := by omega
  have hk6 : (n : Int) < (n : Int) + 1 := by omega
  have hp0 : (0 : Int) ≤ (i : Int) + 1 := by omega
  have hp2 : ((i : Int) + 1).toNat = i + 1 := by omega
  have hp5 : (i : Int) + 1 ≤ (n : Int) + 1 := by omega
  have hwr : IntKind.i64.wrap ((i : Int) + 1) = (i : Int) + 1 := by rw [IntKind.wrap_i64]; omega
  have hk4 : i + 1 ≤ n + 1 := by omega
  have hk8 : i ≤ n := by omega
  have hk5 : i + 1 ≤ C := by omega
  have hp7 : (i : Int) ≤ (n : Int) + 1 := by omega
  have Happ := Lib.hid happ
  clear happ
  clear hR1 hb1 hl1 V1 Rg1 hW2 R2 l2 G2 Rg2 hcs lcs hcell hlA hR hV h1 h2 hcl hVl hgl hC2
  go_enter Try.func19, Try.ntmps19
  go_upto_region 11 with (first
    | (at_builtin; refine wpList_append_run rfl (.tmp 34) (.tmp 39) 22 3 rfl rfl rfl Happ.out ?_)
    | (refine wpList_copy_cells rfl (.tmp 43) (.tmp 44) 22 22 rfl 24 Try.underlying22 1 hsz w.heap.size i (n + 1 - i) (C - i) ⟨vb, 0, none⟩ 1 1 rfl rfl [x] b1.out b2.out b3.out b4.out ?_; intro w' hw'; rw [← HW2.out] at hw'; subst hw'))
  go_region_law (refine step_copy_cells rfl (.tmp 50) (.tmp 53) 22 22 rfl 24 Try.underlying22 1 hsz w.heap.size (i + 1) (n - i) (C - (i + 1)) ⟨g, i, none⟩ (n - i) (n - i) (by simp [Act.eval, Act.put]) (by simp [Act.eval, Act.put]) cs a1.out a2.out a3.out a4.out ?_)
  go_wp2_with fail
  go_ret
  exact ⟨C, rfl, hB3.out, hC2'.out, hC1, _, R3.out, l3.out, by rw [hfin.out, Hcs.out]⟩

theorem insertT_spec {S Sy : Nat → Prop} {base : Nat} {wm w : World} {v vn : Value} {l : List (List Cell)} {t : List Cell} {vb i : Nat} (hown : Own (seqE cellE) S base 24 wm v l) (hbw : Below wm.heap.size wm w) (hbase : base ≤ wm.heap.size)
    (hV : Row 24 w vb [vn]) (hvb : wm.heap.size ≤ vb) (hn : Seq cellE Sy w vn t) (hS : ∀ b, Sy b → b < w.heap.size → S b ∧ (b < base ∨ wm.heap.size ≤ b)) (hi : i ≤ l.length) (hlen : l.length ≤ 1000000) :
    Calls Try.prog 19 #[v, .int .i64 i, .slice (some ⟨vb, 0, none⟩) 1 1] w (fun e w' => ∃ o, e = .returned o ∧ Below base w w' ∧ Own (seqE cellE) S base 24 w' o (l.take i ++ [t] ++ l.drop i)) := by
  rcases Nat.lt_or_eq_of_le hi with h | rfl
  · obtain ⟨g, cap, cur, hv, hg, hc, hm, hcl, hR, hF⟩ := (hown.move hbw).flatT (by intro e; rw [e] at h; simp at h)
    rcases Nat.lt_or_eq_of_le hc with h2 | h2
    · exact insert_room hown hbw hbase hV hvb hn hS h hv h2
    · subst h2
      have h1 : vn.oneCell' = true := by obtain ⟨ao, c, rfl, -⟩ := hn; rfl
      have hall : cur.take l.length = cur := List.take_of_length_le (by omega)
      rw [hall] at hF
      subst hv
      refine (insert_grow hR hcl h hlen hV h1 hF.one).mono ?_
      rintro e w' ⟨cap', rfl, hb, hcm, hcn, cur', hR', hl', ht'⟩
      have hbs : base ≤ w.heap.size := Nat.le_trans hbase hbw.size
      refine ⟨_, rfl, hb.mono hbs, ?_⟩
      refine FlatT.own hR' (by simp; omega) ?_ hbs hl' hcn hcm
      rw [ht']
      have hF' := hF.mono (w' := w') (T := fun b => S b ∧ b ≠ w.heap.size) (fun b h hl => ⟨h.1, by omega⟩) fun b hb' hl => hb.block b hl
      have hn' := hn.mono (w' := w') (T := fun b => S b ∧ b ≠ w.heap.size) (fun b h hl => ⟨(hS b h hl).1, by omega⟩) fun b hb' hl => hb.block b hl
      exact ((hF'.take i).append (FlatT.single hn')).append (hF'.drop i)
  · refine (insert_last hown hbw hbase hV hn hS (by omega)).mono ?_
    rintro e w' ⟨o, rfl, hb, ho⟩
    exact ⟨o, rfl, hb, by rw [List.take_length, List.drop_length, List.append_nil]; exact ho⟩
end Go.Proofs.Ytceipnlpofebmaa
