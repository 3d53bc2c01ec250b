/-
  Layer 13: rows of changes; Change of the document.
-/
import Derived.Test.YteefdmpaclnaiaaTnA
namespace Go.Proofs.Yteefdmpaclnaiaa
open Go Go.RowKit

theorem infoChg : (Try.prog.info? 32).map (fun i => (i.zero, i.size, i.bytes)) = some (some (.agg #[.bool false, .slice none 0 0]), 2, 32) := by kernel_rfl

section
variable {P : Program} {ops : Array Oper} {rest : List Oper} {o : Oper} {a : Act} {Q : Exit → Act → World → Prop}
theorem wpList_app_chg {S Sy : Nat → Prop} {w wm : World} (hgd : o.guard = none) (s x : Operand) (t : TypeId)
    (ho : o.op = .call { callee := .builtin .append, args := #[s, x], argTypes := #[t, t] })
    {base : Nat} {e : TypeId} (ht : P.underlying t = some (.slice e)) (hi : (P.info? e).map (fun i => (i.zero, i.size, i.bytes)) = some (some (.agg #[.bool false, .slice none 0 0]), 2, 32))
    {v : Value} {xs : List Chg} (hs : a.eval s = v) (hown : Own changeE S base e wm v xs) {B c : Nat} (hx : a.eval x = .slice (some ⟨B, 0, none⟩) 1 c)
    (hbw : Below wm.heap.size wm w) {y : Chg} {vt : Value} (hy : Seq cellE Sy w vt y.t) (hS : ∀ b, Sy b → b < w.heap.size → S b ∧ (b < base ∨ wm.heap.size ≤ b))
    (hc0 : w.cell? ⟨B, 0, none⟩ = some (.bool y.add)) (hc1 : w.cell? ⟨B, 1, none⟩ = some vt) (hbytes : xs.length ≤ 1000000000000) (hbase : base ≤ wm.heap.size)
    (h : ∀ ao cap w', Own changeE S base e w' (.slice ao (xs.length + 1) cap) (xs ++ [y]) → Kept base wm w w' v (.slice ao (xs.length + 1) cap) → wpList P ops Q rest (a.put o.dst (.slice ao (xs.length + 1) cap)) w') : wpList P ops Q (o :: rest) a w :=
  wpList_app1 (E := changeE) (Sy := Sy) (y := y) (cs := [.bool y.add, vt]) hgd s x t ho ht hi rfl hs hown hbw _ _ hx ⟨vt, rfl, hy⟩ hS
    (by
      intro j hj
      have h3 : j < 2 := hj
      rcases (show j = 0 ∨ j = 1 by omega) with rfl | rfl
      · exact hc0
      · exact hc1) (by omega) (by simp only [maxLen]; omega) hbase
    fun ao cap w' h1 h2 h3 h4 => h ao cap w' h1 (Kept.of h2 h3 hbw hbase h4)
theorem wp_app_chg {S Sy : Nat → Prop} {w wm : World} {K : Act → World → Prop} (s x : Operand) (t : TypeId)
    (ho : o.op = .call { callee := .builtin .append, args := #[s, x], argTypes := #[t, t] })
    {base : Nat} {e : TypeId} (ht : P.underlying t = some (.slice e)) (hi : (P.info? e).map (fun i => (i.zero, i.size, i.bytes)) = some (some (.agg #[.bool false, .slice none 0 0]), 2, 32))
    {v : Value} {xs : List Chg} (hs : a.eval s = v) (hown : Own changeE S base e wm v xs) {B c : Nat} (hx : a.eval x = .slice (some ⟨B, 0, none⟩) 1 c)
    (hbw : Below wm.heap.size wm w) {y : Chg} {vt : Value} (hy : Seq cellE Sy w vt y.t) (hS : ∀ b, Sy b → b < w.heap.size → S b ∧ (b < base ∨ wm.heap.size ≤ b))
    (hc0 : w.cell? ⟨B, 0, none⟩ = some (.bool y.add)) (hc1 : w.cell? ⟨B, 1, none⟩ = some vt) (hbytes : xs.length ≤ 1000000000000) (hbase : base ≤ wm.heap.size)
    (h : ∀ ao cap w', Own changeE S base e w' (.slice ao (xs.length + 1) cap) (xs ++ [y]) → Kept base wm w w' v (.slice ao (xs.length + 1) cap) → K (a.put o.dst (.slice ao (xs.length + 1) cap)) w') : o.wp P a w K Q :=
  wp_app1 (E := changeE) (Sy := Sy) (y := y) (cs := [.bool y.add, vt]) s x t ho ht hi rfl hs hown hbw _ _ hx ⟨vt, rfl, hy⟩ hS
    (by
      intro j hj
      have h3 : j < 2 := hj
      rcases (show j = 0 ∨ j = 1 by omega) with rfl | rfl
      · exact hc0
      · exact hc1) (by omega) (by simp only [maxLen]; omega) hbase h
end

set_option maxHeartbeats 1600000 in
set_option maxRecDepth 100000 in
theorem cloneG_spec {S : Nat → Prop} {w : World} {v : Value} {l : List Chg} (hl : Seq (changeE) S w v l) (hlen : l.length ≤ 1000000000) :
    Calls Try.prog 42 #[v] w (Ret (fun o w' => Own (changeE) (fun b => S b ∧ b < w.heap.size) w.heap.size 32 w' o l) w) := by
  have hb := Lib.hid hl.bnd
  obtain ⟨ao, cap, rfl, h1, h2, h3, h4, h5⟩ := hl
  cases ao with
  | none =>
    obtain rfl := h4 rfl
    have hl0 : l.length = 0 := by omega
    have hn := Lib.hid (List.eq_nil_of_length_eq_zero hl0)
    have hnil := fun (w : World) (a : Option Addr) (n c n' c' : Nat) => Lib.run_eql_slice_nil (P := Try.prog) w 23 32 a n c n' c' Try.underlying23
    clear h5 h4
    go_enter Try.func42, Try.ntmps42
    go_wp2_with fail
    go_ret
    exact ⟨_, rfl, Below.refl _ _, by rw [hn.out]; exact Own.nil _ _ _ _ _⟩
  | some ad =>
    clear h5 h4
    have hown : Own (changeE) (fun b => S b ∧ b < w.heap.size) w.heap.size 32 (w.alloc (.cells #[] 32)) (.slice (some ⟨w.heap.size, 0, none⟩) 0 0) ([] : List Chg) := Own.lit0 rfl (Nat.le_refl _) rfl
    have hba := Lib.hid (hb.out.at (Seq.way (w' := w.alloc (.cells #[] 32))))
    have hnil := fun (w : World) (a : Option Addr) (n c n' c' : Nat) => Lib.run_eql_slice_nil (P := Try.prog) w 23 32 a n c n' c' Try.underlying23
    go_enter Try.func42, Try.ntmps42
    go_wp2_with (at_builtin; refine wpList_appL (wm := w.alloc (.cells #[] 32)) (zs := l) rfl _ _ 23 rfl Try.underlying23 infoChg rfl rfl hown (Below.refl _ _) rfl hba.out (fun b h _ => ⟨h, .inl h.2⟩) rfl (by omega) (by omega) (by simp) ?_)
    intro ao' cap' w' hown' hkept
    have hb' := (Seq.way (w := w) (w' := w.alloc (.cells #[] 32)) (B := w.heap.size)).trans hkept.below
    have Hown := Lib.hid hown'
    clear hown hown' hkept hba
    go_wp2_with fail
    go_ret
    exact ⟨_, rfl, hb', Hown.out⟩

theorem Row.two {T : TypeId} {w : World} {B : Nat} {a b : Value} (h : Row T w B [a, b]) :
    w.cell? ⟨B, 0, none⟩ = some a ∧ w.cell? ⟨B, 1, none⟩ = some b := ⟨h.cell (j := 0) (by simp), h.cell (j := 1) (by simp)⟩

theorem Below.set1 {B g o : Nat} {w w' : World} {v : Value} (h : Below B w w') (hg : B ≤ g) : Below B w (w'.setCell ⟨g, o, none⟩ v) := h.setCell hg _
theorem heap_set4 {w : World} {g b : Nat} {p q r s : Value} (h : b ≠ g) :
    ((((w.setCell ⟨g, 0, none⟩ p).setCell ⟨g, 1, none⟩ q).setCell ⟨g, 2, none⟩ r).setCell ⟨g, 3, none⟩ s).heap[b]? = w.heap[b]? := by
  rw [Below.heap_setCell _ _ _ _ (fun e => h e), Below.heap_setCell _ _ _ _ (fun e => h e), Below.heap_setCell _ _ _ _ (fun e => h e), Below.heap_setCell _ _ _ _ (fun e => h e)]

def changeO (b : Bas) (c : Chg) : Bas := if b.on = true ∧ factT c.t = true then { b with todo := b.todo ++ [c] } else b
def changeN (b : Bas) (c : Chg) : Int := if b.on = true then (if factT c.t = true then 0 else 120) else 131

set_option maxHeartbeats 1600000 in
set_option maxRecDepth 100000 in
theorem ChangeR_spec {S : Nat → Prop} {w : World} {v u : Value} {b : Bas} {c : Chg} (hb : BasV S w v b) (hc : ChgV S w u c) (hlen : b.todo.length ≤ 1000000) :
    Calls Try.prog 18 #[v, u] w (RetE (fun o w' => BasV (Fr S w) w' o (changeO b c)) (changeN b c) w) := by
  obtain ⟨fa, fc, ta, tc, rfl, h1, h2, h3⟩ := hb.bnd
  obtain ⟨ca, cc, rfl, hc2⟩ := hc.mono (T := fun b => S b ∧ b < w.heap.size) (fun b h hl => ⟨h, hl⟩) fun _ _ _ => rfl
  have H2 := Lib.hid h2
  have H3 := Lib.hid h3
  have HC := Lib.hid hc2
  clear h2 h3 hc2 hb hc
  have hval : ∀ {w' : World}, Below w.heap.size w w' → BasV (Fr S w) w' (.agg #[.slice fa b.facts.length fc, .int .i64 b.ver, .bool b.on, .slice ta b.todo.length tc]) b := fun {w'} h =>
    ⟨fa, fc, ta, tc, rfl, h1, (H2.out.mono (fun b h _ => .inl h.1) fun b h _ => rfl : Seq _ (Fr S w) w _ _).mono (fun _ h _ => h) fun b _ hl => h.block b hl, (H3.out.mono (fun b h _ => .inl h.1) fun b h _ => rfl : Seq _ (Fr S w) w _ _).mono (fun _ h _ => h) fun b _ hl => h.block b hl⟩
  have Hval := fun {w' : World} (h : Below w.heap.size w w') => Lib.hid (hval h)
  clear hval
  go_enter Try.func18, Try.ntmps18
  cases hon : b.on
  · have he := Lib.hid (show changeN b c = 131 by unfold changeN; rw [hon]; rfl)
    have ho := Lib.hid (show changeO b c = b by unfold changeO; rw [hon]; rfl)
    have hon' := Lib.hid hon
    go_wp2_with fail
    refine bodyPost_ret (v := .tuple #[.agg #[.slice fa b.facts.length fc, .int .i64 b.ver, .bool false, .slice ta b.todo.length tc], .int .i64 131]) (by simp [results, Try.results18, go_sem]) rfl ?_
    exact ⟨_, by rw [he.out], Seq.way, by rw [ho.out, ← hon'.out]; exact (Hval Seq.way).out⟩
  · have hon' := Lib.hid hon
    go_wp2_with fail
    refine (FactR_spec (HC.out.at Seq.way)).mono ?_
    rintro e w1 ⟨rfl, hb1⟩
    have hz1 := hb1.size
    simp at hz1
    have hb1' : Below w.heap.size w w1 := Below.trans Seq.way (hb1.mono (by simp <;> omega))
    have r0 : Row 25 w1 w.heap.size _ := (((Row.new w [_, _, _, _] _ rfl).alloc _).alloc _).below hb1 (by simp <;> omega)
    have r1 : Row 32 w1 (w.heap.size + 1) _ := ((Row.new _ [_, _] _ (by simp)).alloc _).below hb1 (by simp)
    have r2 : Row 25 w1 (w.heap.size + 2) _ := (Row.new _ [_, _, _, _] _ (by simp)).below hb1 (by simp)
    obtain ⟨c0, c1, c2, c3, d0, d1, d2, d3⟩ := r0.four
    obtain ⟨c4, c5⟩ := r1.two
    obtain ⟨c6, c7, c8, c9, d6, d7, d8, d9⟩ := r2.four
    have l0 : w.heap.size < w1.heap.size := by omega
    have l1 : w.heap.size + 1 < w1.heap.size := by omega
    have l2 : w.heap.size + 2 < w1.heap.size := by omega
    cases hf : factT c.t
    · have he := Lib.hid (show changeN b c = 120 by unfold changeN; rw [hon, hf]; rfl)
      have ho := Lib.hid (show changeO b c = b by unfold changeO; rw [hf]; simp)
      clear hon
      go_wp2_with fail
      refine bodyPost_ret (v := .tuple #[.agg #[.slice fa b.facts.length fc, .int .i64 b.ver, .bool true, .slice ta b.todo.length tc], .int .i64 120]) (by simp [results, Try.results18, go_sem, c6, c7, c8, c9]) rfl ?_
      have hbf := below_set4 (p := .slice fa b.facts.length fc) (q := .int .i64 b.ver) (r := .bool true) (s := .slice ta b.todo.length tc) hb1' (show w.heap.size ≤ w.heap.size + 2 by omega)
      exact ⟨_, by rw [he.out], hbf, by rw [ho.out, ← hon'.out]; exact (Hval (by rw [hon'.out]; exact hbf)).out⟩
    · have he := Lib.hid (show changeN b c = 0 by unfold changeN; rw [hon, hf]; rfl)
      have ho := Lib.hid (show changeO b c = { b with todo := b.todo ++ [c] } by unfold changeO; rw [hon, hf]; rfl)
      clear hon
      have hown0 : Own changeE (fun b => S b ∧ b < w.heap.size) w1.heap.size 32 (w1.alloc (.cells #[] 32)) (.slice (some ⟨w1.heap.size, 0, none⟩) 0 0) ([] : List Chg) := Own.lit0 rfl (Nat.le_refl _) rfl
      have H31 := Lib.hid ((H3.out.at hb1').at (Seq.way (w' := w1.alloc (.cells #[] 32))))
      go_wp2_with (at_builtin; refine wpList_appL (E := changeE) (wm := w1.alloc (.cells #[] 32)) (zs := b.todo) rfl _ _ 23 rfl Try.underlying23 infoChg rfl rfl hown0 (Below.refl _ _) rfl H31.out (fun b h _ => ⟨h, .inl (by omega)⟩) rfl (by omega) (by omega) (by simp <;> omega) ?_)
      intro ao2 cap2 w2 hown2 hk2
      have hb12 : Below w1.heap.size w1 w2 := Below.trans Seq.way hk2.below
      have hz2 := hb12.size
      have Hown2 := Lib.hid hown2
      have Hb12 := Lib.hid hb12
      obtain ⟨c0', c1', c2', c3', -, -, -, d3'⟩ := (r0.below hb12 l0).four
      obtain ⟨c4', c5'⟩ := (r1.below hb12 l1).two
      have hbw2 : Below w.heap.size w w2 := below_step hb12 hb1'
      have m0 : w.heap.size < w2.heap.size := by omega
      have m1 : w.heap.size + 1 < w2.heap.size := by omega
      have m2 : w.heap.size + 2 < w2.heap.size := by omega
      have HC2 := Lib.hid (HC.out.at hbw2)
      clear hown2 hk2 hown0 hb12
      go_wp2_with (at_builtin; refine wpList_app_chg (S := fun b => S b ∧ b < w.heap.size) (Sy := fun b => S b ∧ b < w.heap.size) (base := w1.heap.size) (wm := w2) (y := c) rfl (.tmp 20) (.tmp 22) 23 rfl Try.underlying23 infoChg rfl Hown2.out rfl Seq.way (HC2.out.at Seq.way) (fun b h _ => ⟨h, .inl (by omega)⟩) (by go_simp) (by go_simp) (by omega) hz2 ?_)
      intro ao3 cap3 w3 hown3 hk3
      have hb23 : Below w1.heap.size w2 w3 := Below.trans Seq.way hk3.below
      have hz3 := hb23.size
      have hb13 : Below w1.heap.size w1 w3 := Hb12.out.trans hb23
      obtain ⟨e0, e1, e2, e3, g0, g1, g2, g3⟩ := (r0.below hb13 l0).four
      obtain ⟨e6, e7, e8, e9, g6, g7, g8, g9⟩ := (r2.below hb13 l2).four
      have hbw3 : Below w.heap.size w w3 := below_step hb13 hb1'
      have hs3 := Lib.hid (hown3.seq (T := fun b => Fr S w b ∧ (b < w.heap.size ∨ w1.heap.size ≤ b)) (by simp; omega) fun b _ h => h.elim (fun h => ⟨.inl h.1, .inl h.2⟩) fun h => ⟨.inr (by omega), .inr h⟩)
      clear hown3 hk3
      clear c0 c1 c2 c3 c4 c5 c6 c7 c8 c9 d0 d1 d2 d3 d6 d7 d8 d9 c0' c1' c2' c3' d3' c4' c5'
      go_wp2_with fail
      refine bodyPost_ret (v := .tuple #[.agg #[.slice fa b.facts.length fc, .int .i64 b.ver, .bool true, .slice ao3 (b.todo.length + 1) cap3], .int .i64 0]) (by simp [results, Try.results18, go_sem, e6, e7, e8, e9]) rfl ?_
      have hbf := below_set4 (B := w.heap.size) (g := w.heap.size + 2) (p := .slice fa b.facts.length fc) (q := .int .i64 b.ver) (r := .bool true) (s := .slice ao3 (b.todo.length + 1) cap3) (show Below w.heap.size w3 (w3.setCell ⟨w.heap.size, 3, none⟩ (.slice ao3 (b.todo.length + 1) cap3)) from Below.set1 (Below.refl _ _) (Nat.le_refl _)) (by omega)
      refine ⟨_, by rw [he.out], hbw3.trans hbf, ?_⟩
      rw [ho.out]
      refine ⟨fa, fc, ao3, cap3, by simp [hon'.out], h1, (H2.out.at (hbw3.trans hbf)).mono (fun b h _ => .inl h.1) fun _ _ _ => rfl, ?_⟩
      show Seq changeE (Fr S w) _ (.slice ao3 (b.todo ++ [c]).length cap3) (b.todo ++ [c])
      rw [List.length_append]
      refine hs3.out.mono (fun b h _ => h.1) (fun b h _ => ?_)
      have hbb := h.2
      rw [heap_set4 (by omega), Below.heap_setCell _ _ _ _ (fun e => by dsimp only at e; omega)]
end Go.Proofs.Yteefdmpaclnaiaa
