/-
  Layer 13: Change of the program.
-/
import Derived.Test.YteefdmpaclnaiaaTnB
import Derived.Test.YteefdmpaclnaiaaFlow
namespace Go.Proofs.Yteefdmpaclnaiaa
open Go Go.RowKit
theorem flagsF_none : ∀ (L : Array Bool) (is : List Nat) (n : Nat), flagsF L is (List.replicate n false) = L
  | _, [], _ => by simp [flagsF]
  | _, _ :: _, 0 => by simp [flagsF]
  | L, _ :: is, n + 1 => by
    rw [List.replicate_succ]
    simp only [flagsF, Bool.false_eq_true, if_false]
    exact flagsF_none L is n
theorem holds_of {Ds : List (Value → World → Prop)} {k : Nat} {v : Value} {w : World} {D : Value → World → Prop} (h : Ds[k]? = some D) (hd : D v w) : Holds Ds k v w := by
  intro D' h'
  rw [h] at h'
  simp only [Option.some.injEq] at h'
  rw [← h']; exact hd
section
variable {P : Program} {md : Region.Mode} {ops : Array Oper} {Q : Exit → Act → World → Prop} {S : World → Prop}
/-- Whatever order they come up in, from the start. -/
theorem wpAnyH_flow' {W0 : World} {A0 : Act} {L : Array Bool} (is : List Nat) (ts : List Tmp) (deps : List (List Nat)) (Ds : List (Value → World → Prop))
    (hok : flowOK md ops L is deps = true) (hts : ts.length = is.length) (hnd : ts.Nodup) (vs0 : List Value) (hv : vs0.length = is.length) (hp : putsL A0 ts vs0 = A0)
    (hD : ∀ D ∈ Ds, ∀ v w w', D v w → Below w.heap.size w w' → D v w')
    (hS : ∀ w, Below W0.heap.size W0 w → S w)
    (hstep : ∀ k, k < is.length → ∀ vs w, vs.length = is.length → Below W0.heap.size W0 w → (∀ j ∈ deps.getD k [], ∀ v, vs[j]? = some v → Holds Ds j v w) →
      ∃ o, ops[is.getD k 0]? = some o ∧ Region.wanted o (yielded ops (putsL A0 ts vs).tmps) = true ∧
        ∀ K, Hid (∀ v w', Below w.heap.size w w' → Holds Ds k v w' → K ((putsL A0 ts vs).put (some (ts.getD k 0)) v) w') → o.wp P (putsL A0 ts vs) w K Q)
    {f : Nat} (hend : ∀ vs w, vs.length = is.length → Below W0.heap.size W0 w → (∀ k v, vs[k]? = some v → Holds Ds k v w) → wpAnyH P md ops Q S f (flagsF L is (List.replicate is.length true)) (putsL A0 ts vs) w) :
    wpAnyH P md ops Q S (f + is.length) L A0 W0 := by
  have h := wpAnyH_flow W0 A0 L is ts deps Ds hok hts hnd hD hS hstep hend is.length (List.replicate is.length false) vs0 W0 (by simp)
    ⟨by simp, hv, by
      unfold closedB
      rw [List.all_eq_true]
      intro k _
      rw [List.getD_eq_getElem?_getD, List.getElem?_replicate]
      split <;> rfl, Below.refl _ _, fun k v h => by
        rw [List.getD_eq_getElem?_getD, List.getElem?_replicate] at h
        split at h <;> simp at h⟩
  rw [hp, flagsF_none] at h
  exact h
end

set_option maxHeartbeats 1600000 in
set_option maxRecDepth 100000 in
theorem ChangeP_spec {S : Nat → Prop} {w : World} {v u : Value} {b : Bas} {c : Chg} (hb : BasV S w v b) (hc : ChgV S w u c) (hlen : b.todo.length ≤ 1000000) :
    Calls Try.prog 17 #[v, u] w (RetE (fun o w' => BasV (Fr S w) w' o (changeO b c)) (changeN b c) w) := by
  obtain ⟨fa, fc, ta, tc, rfl, h1, h2, h3⟩ := hb.bnd
  obtain ⟨ca, cc, rfl, hc2⟩ := hc.mono (T := fun b => S b ∧ b < w.heap.size) (fun b h hl => ⟨h, hl⟩) fun _ _ _ => rfl
  have H2 := Lib.hid h2
  have H3 := Lib.hid h3
  have HC := Lib.hid hc2
  clear h2 h3 hc2 hb hc
  have hval : ∀ {w' : World}, Below w.heap.size w w' → BasV (Fr S w) w' (.agg #[.slice fa b.facts.length fc, .int .i64 b.ver, .bool b.on, .slice ta b.todo.length tc]) b := fun {w'} h =>
    ⟨fa, fc, ta, tc, rfl, h1, (H2.out.mono (fun b h _ => .inl h.1) fun b h _ => rfl : Seq _ (Fr S w) w _ _).mono (fun _ h _ => h) fun b _ hl => h.block b hl, (H3.out.mono (fun b h _ => .inl h.1) fun b h _ => rfl : Seq _ (Fr S w) w _ _).mono (fun _ h _ => h) fun b _ hl => h.block b hl⟩
  have Hval := fun {w' : World} (h : Below w.heap.size w w') => Lib.hid (hval h)
  clear hval
  go_enter Try.func17, Try.ntmps17
  cases hon : b.on
  · have he := Lib.hid (show changeN b c = 131 by unfold changeN; rw [hon]; rfl)
    have ho := Lib.hid (show changeO b c = b by unfold changeO; rw [hon]; rfl)
    have hon' := Lib.hid hon
    go_wp2_with fail
    refine bodyPost_ret (v := .tuple #[.agg #[.slice fa b.facts.length fc, .int .i64 b.ver, .bool false, .slice ta b.todo.length tc], .int .i64 131]) (by simp [results, Try.results17, go_sem]) rfl ?_
    exact ⟨_, by rw [he.out], Seq.way, by rw [ho.out, ← hon'.out]; exact (Hval Seq.way).out⟩
  · have hon' := Lib.hid hon
    go_wp2_with fail
    refine (FactP_spec (HC.out.at Seq.way)).mono ?_
    rintro e w1 ⟨rfl, hb1⟩
    have hz1 := hb1.size
    simp at hz1
    have hb1' : Below w.heap.size w w1 := Below.trans Seq.way (hb1.mono (by simp <;> omega))
    have r0 : Row 25 w1 w.heap.size _ := (((Row.new w [_, _, _, _] _ rfl).alloc _).alloc _).below hb1 (by simp <;> omega)
    have r1 : Row 32 w1 (w.heap.size + 1) _ := ((Row.new _ [_, _] _ (by simp)).alloc _).below hb1 (by simp)
    have r2 : Row 25 w1 (w.heap.size + 2) _ := (Row.new _ [_, _, _, _] _ (by simp)).below hb1 (by simp)
    obtain ⟨c0, c1, c2, c3, d0, d1, d2, d3⟩ := r0.four
    obtain ⟨c4, c5⟩ := r1.two
    obtain ⟨c6, c7, c8, c9, d6, d7, d8, d9⟩ := r2.four
    have l0 : w.heap.size < w1.heap.size := by omega
    have l1 : w.heap.size + 1 < w1.heap.size := by omega
    have l2 : w.heap.size + 2 < w1.heap.size := by omega
    cases hf : factT c.t
    · have he := Lib.hid (show changeN b c = 120 by unfold changeN; rw [hon, hf]; rfl)
      have ho := Lib.hid (show changeO b c = b by unfold changeO; rw [hf]; simp)
      clear hon
      go_wp2_with fail
      refine bodyPost_ret (v := .tuple #[.agg #[.slice fa b.facts.length fc, .int .i64 b.ver, .bool true, .slice ta b.todo.length tc], .int .i64 120]) (by simp [results, Try.results17, go_sem, c6, c7, c8, c9]) rfl ?_
      have hbf := below_set4 (p := .slice fa b.facts.length fc) (q := .int .i64 b.ver) (r := .bool true) (s := .slice ta b.todo.length tc) hb1' (show w.heap.size ≤ w.heap.size + 2 by omega)
      exact ⟨_, by rw [he.out], hbf, by rw [ho.out, ← hon'.out]; exact (Hval (by rw [hon'.out]; exact hbf)).out⟩
    · have he := Lib.hid (show changeN b c = 0 by unfold changeN; rw [hon, hf]; rfl)
      have ho := Lib.hid (show changeO b c = { b with todo := b.todo ++ [c] } by unfold changeO; rw [hon, hf]; rfl)
      clear hon
      go_upto_region 5 with fail
      have hk : ∀ {W : World}, Below w1.heap.size w1 W → W.cell? ⟨w.heap.size, 3, none⟩ = some (.slice ta b.todo.length tc) ∧ W.cell? ⟨w.heap.size + 1, 0, none⟩ = some (.bool c.add) ∧ W.cell? ⟨w.heap.size + 1, 1, none⟩ = some (.slice ca c.t.length cc) := fun hW =>
        ⟨(r0.below hW l0).four.2.2.2.1, (r1.below hW l1).two⟩
      have Hk := fun {W : World} (hW : Below w1.heap.size w1 W) => Lib.hid (hk hW)
      have R0 := Lib.hid r0
      have R2 := Lib.hid r2
      have HB1 := Lib.hid hb1'
      clear hk r0 r1 r2 c0 c1 c2 c3 c4 c5 c6 c7 c8 c9 d0 d1 d2 d3 d6 d7 d8 d9 hb1 hf
      have hA : ∃ A : Value → World → Prop, A = fun v w' => ∃ base ao cap, v = .slice ao b.todo.length cap ∧ w1.heap.size ≤ base ∧ base ≤ w'.heap.size ∧ Own changeE (fun b => S b ∧ b < w.heap.size) base 32 w' v b.todo := ⟨_, rfl⟩
      obtain ⟨A, hA⟩ := hA
      have hB : ∃ B : Value → World → Prop, B = fun u w' => ∃ g, u = .slice (some ⟨g, 0, none⟩) 1 1 ∧ Row 32 w' g [.bool c.add, .slice ca c.t.length cc] := ⟨_, rfl⟩
      obtain ⟨B, hB⟩ := hB
      refine wp_region_noPanic ?_
      refine wp_region_held_drew (S := fun _ => True) (by kernel_rfl) trivial (fun hHeld => ?_)
      clear hHeld
      refine wpAnyH_flow' (f := 3) [0, 1, 2, 3, 4] [17, 18, 19, 20, 21] [[], [0], [1], [], [3]]
        [fun v _ => v = .pointer (some ⟨w.heap.size, 3, none⟩), fun v _ => v = .slice ta b.todo.length tc, A, fun v _ => v = .agg #[.bool c.add, .slice ca c.t.length cc], B]
        (by kernel_rfl) rfl (by decide) [undef, undef, undef, undef, undef] rfl (by rfl) ?_ (fun _ _ => trivial) ?_ ?_
      · intro D hD v y z hDv hyz
        simp only [List.mem_cons, List.not_mem_nil, or_false] at hD
        rcases hD with rfl | rfl | rfl | rfl | rfl
        · exact hDv
        · exact hDv
        · rw [hA] at hDv ⊢
          obtain ⟨base, ao, cap, e, h1, h2, h3⟩ := hDv
          exact ⟨base, ao, cap, e, h1, Nat.le_trans h2 hyz.size, h3.move hyz⟩
        · exact hDv
        · rw [hB] at hDv ⊢
          obtain ⟨g, e, hg⟩ := hDv
          exact ⟨g, e, hg.below hyz hg.lt⟩
      · intro k hk vs y hvs hby0 hdeps
        have hby : Below w1.heap.size w1 y := Below.trans (Seq.way : Below w1.heap.size w1 w1.drew) hby0
        have hq := (Hk hby).out
        obtain ⟨v0, v1, v2, v3, v4, rfl⟩ := len_five hvs
        simp only [putsL, Act.put, List.setIfInBounds_toArray, List.set_cons_zero, List.set_cons_succ]
        rcases (show k = 0 ∨ k = 1 ∨ k = 2 ∨ k = 3 ∨ k = 4 by simp at hk; omega) with rfl | rfl | rfl | rfl | rfl
        · refine ⟨_, rfl, by rfl, fun K hK => ?_⟩
          go_simp
          exact hK.out _ _ (Below.refl _ _) (holds_of rfl rfl)
        · have hd := hdeps 0 (by simp) v0 rfl _ rfl
          subst hd
          refine ⟨_, rfl, by rfl, fun K hK => ?_⟩
          go_simp
          exact hK.out _ _ (Below.refl _ _) (holds_of rfl rfl)
        · have hd := hdeps 1 (by simp) v1 rfl _ rfl
          subst hd
          refine ⟨_, rfl, by rfl, fun K hK => ?_⟩
          go_simp
          refine (cloneG_spec (H3.out.at (HB1.out.trans (hby.mono (by omega)))) (by omega)).mono ?_
          rintro e z ⟨v, rfl, hbz, hown⟩
          obtain ⟨va, vc, hv, -, -⟩ := hown.shape
          refine hK.out _ _ hbz (holds_of (D := A) rfl ?_)
          rw [hA]
          exact ⟨_, va, vc, hv, hby.size, hbz.size, hown.reS fun b h _ _ => h.1⟩
        · refine ⟨_, rfl, by rfl, fun K hK => ?_⟩
          go_simp
          exact hK.out _ _ (Below.refl _ _) (holds_of rfl rfl)
        · have hd := hdeps 3 (by simp) v3 rfl _ rfl
          subst hd
          refine ⟨_, rfl, by rfl, fun K hK => ?_⟩
          go_simp
          refine hK.out _ _ Seq.way (holds_of (D := B) rfl ?_)
          rw [hB]
          exact ⟨_, rfl, Row.new _ [_, _] _ rfl⟩
      intro vs w2 hvs hby0 hhas
      have hb12 : Below w1.heap.size w1 w2 := Below.trans (Seq.way : Below w1.heap.size w1 w1.drew) hby0
      obtain ⟨v0, v1, v2, v3, v4, rfl⟩ := len_five hvs
      have x0 := hhas 0 v0 rfl _ rfl
      have x1 := hhas 1 v1 rfl _ rfl
      have x2 := hhas 2 v2 rfl A rfl
      have x3 := hhas 3 v3 rfl _ rfl
      have x4 := hhas 4 v4 rfl B rfl
      subst x0 x1 x3
      rw [hA] at x2
      rw [hB] at x4
      obtain ⟨base, va, vc, rfl, hb0, hb0', hown2⟩ := x2
      obtain ⟨g, rfl, hg⟩ := x4
      have hbw2 : Below w.heap.size w w2 := below_step hb12 HB1.out
      have hc0 := hg.two.1
      have hc1 := hg.two.2
      have Hown2 := Lib.hid hown2
      have HC2 := Lib.hid (HC.out.at hbw2)
      have Hb12 := Lib.hid hb12
      clear hhas hA hB A B hown2 hg hb12 hby0 hvs
      simp only [putsL, Act.put, List.setIfInBounds_toArray, List.set_cons_zero, List.set_cons_succ]
      refine wpAnyH_one (i := 5) (by kernel_rfl) rfl (by rfl) fun K hK => ?_
      refine wp_app_chg (S := fun b => S b ∧ b < w.heap.size) (Sy := fun b => S b ∧ b < w.heap.size) (base := base) (wm := w2) (y := c) (.tmp 19) (.tmp 21) 23 rfl Try.underlying23 infoChg rfl Hown2.out rfl (Below.refl _ _) HC2.out (fun b h _ => ⟨h, .inl (by omega)⟩) hc0 hc1 (by omega) hb0' ?_
      intro ao3 cap3 w3 hown3 hk3
      have hb23 : Below w1.heap.size w2 w3 := hk3.below.mono hb0
      have hb13 : Below w1.heap.size w1 w3 := Hb12.out.trans hb23
      refine hK.out _ _ trivial fun hHeld => ?_
      clear hK K hHeld
      have hz3 := hb23.size
      obtain ⟨e0, e1, e2, e3, g0, g1, g2, g3⟩ := (R0.out.below hb13 l0).four
      obtain ⟨e6, e7, e8, e9, g6, g7, g8, g9⟩ := (R2.out.below hb13 l2).four
      have hbw3 : Below w.heap.size w w3 := below_step hb13 HB1.out
      have hs3 := Lib.hid (hown3.seq (T := fun b => Fr S w b ∧ (b < w.heap.size ∨ w1.heap.size ≤ b)) (by simp; omega) fun b _ h => h.elim (fun h => ⟨.inl h.1, .inl h.2⟩) fun h => ⟨.inr (by omega), .inr (by omega)⟩)
      clear hown3 hk3
      (try simp only [Act.put, List.getElem_toArray, List.getElem_cons_zero, List.getElem_cons_succ, List.setIfInBounds_toArray, List.set_cons_zero, List.set_cons_succ])
      refine wpAnyH_one (i := 6) (by kernel_rfl) rfl (by rfl) fun K hK => ?_
      go_simp
      refine hK.out _ _ trivial fun hHeld => ?_
      clear hK K hHeld
      (try simp only [Act.put, List.getElem_toArray, List.getElem_cons_zero, List.getElem_cons_succ, List.setIfInBounds_toArray, List.set_cons_zero, List.set_cons_succ])
      refine wpAnyH_one (i := 7) (by kernel_rfl) rfl (by rfl) fun K hK => ?_
      go_simp
      (try dsimp only)
      refine hK.out _ _ trivial fun hHeld => ?_
      clear hK K hHeld
      (try simp only [Act.put, List.getElem_toArray, List.getElem_cons_zero, List.getElem_cons_succ, List.setIfInBounds_toArray, List.set_cons_zero, List.set_cons_succ])
      refine wpAnyH_done (by kernel_rfl) ?_ _
      refine NoPanic.normal ?_
      go_wp2_with fail
      refine bodyPost_ret (v := .tuple #[.agg #[.slice fa b.facts.length fc, .int .i64 b.ver, .bool true, .slice ao3 (b.todo.length + 1) cap3], .int .i64 0]) (by simp [results, Try.results17, go_sem, e6, e7, e8, e9]) rfl ?_
      have hbf := below_set4 (B := w.heap.size) (g := w.heap.size + 2) (p := .slice fa b.facts.length fc) (q := .int .i64 b.ver) (r := .bool true) (s := .slice ao3 (b.todo.length + 1) cap3) (show Below w.heap.size w3 (w3.setCell ⟨w.heap.size, 3, none⟩ (.slice ao3 (b.todo.length + 1) cap3)) from Below.set1 (Below.refl _ _) (Nat.le_refl _)) (by omega)
      refine ⟨_, by rw [he.out], hbw3.trans hbf, ?_⟩
      rw [ho.out]
      refine ⟨fa, fc, ao3, cap3, by simp [hon'.out], h1, (H2.out.at (hbw3.trans hbf)).mono (fun b h _ => .inl h.1) fun _ _ _ => rfl, ?_⟩
      show Seq changeE (Fr S w) _ (.slice ao3 (b.todo ++ [c]).length cap3) (b.todo ++ [c])
      rw [List.length_append]
      refine hs3.out.mono (fun b h _ => h.1) (fun b h _ => ?_)
      have hbb := h.2
      rw [heap_set4 (by omega), Below.heap_setCell _ _ _ _ (fun e => by dsimp only at e; omega)]
end Go.Proofs.Yteefdmpaclnaiaa
