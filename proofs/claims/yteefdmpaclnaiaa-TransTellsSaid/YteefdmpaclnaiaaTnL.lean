/-
  Layer 13: Commit of the program.
-/
import Derived.Test.YteefdmpaclnaiaaTnK
namespace Go.Proofs.Yteefdmpaclnaiaa
open Go Go.RowKit

set_option maxHeartbeats 4000000 in
set_option maxRecDepth 100000 in
theorem CommitP_spec {S : Nat → Prop} {w : World} {v : Value} {b : Bas} (hb : BasV S w v b) (hrow : RowT b.facts) (hv0 : 0 ≤ b.ver) (hv1 : b.ver ≤ 1099511627776) :
    Calls Try.prog 19 #[v] w (Ret4 (fun o x y w' => BasV (Fr S w) w' o (commitO b) ∧ Seq (seqE cellE) (Fr S w) w' x (cameO b) ∧ Seq (seqE cellE) (Fr S w) w' y (wentO b)) (commitE b) w) := by
  obtain ⟨fa, fc, ta, tc, rfl, h1, h2, h3⟩ := hb.bnd
  have hval : ∀ {w' : World}, Below w.heap.size w w' → BasV (Fr S w) w' (.agg #[.slice fa b.facts.length fc, .int .i64 b.ver, .bool b.on, .slice ta b.todo.length tc]) b := fun {w'} h =>
    (hb.mono (T := Fr S w) (w' := w) (fun b h _ => .inl h) fun _ _ _ => rfl).mono (fun _ h _ => h) fun b _ hl => h.block b hl
  have Hval := fun {w' : World} (h : Below w.heap.size w w') => Lib.hid (hval h)
  have H2 := Lib.hid h2
  have H3 := Lib.hid h3
  have Hrow := Lib.hid hrow
  clear h2 h3 hb hrow hval
  go_enter Try.func19, Try.ntmps19
  cases hon : b.on
  · have he := Lib.hid (show commitE b = 131 by unfold commitE; rw [hon]; rfl)
    have ho := Lib.hid (show commitO b = b by unfold commitO; rw [hon]; simp)
    have hc := Lib.hid (show cameO b = [] by unfold cameO; rw [hon]; simp)
    have hw := Lib.hid (show wentO b = [] by unfold wentO; rw [hon]; simp)
    have hon' := Lib.hid hon
    go_wp2_with fail
    refine bodyPost_ret (v := .tuple #[.agg #[.slice fa b.facts.length fc, .int .i64 b.ver, .bool false, .slice ta b.todo.length tc], .slice none 0 0, .slice none 0 0, .int .i64 131]) (by simp [results, Try.results19, go_sem]) rfl ?_
    exact ⟨_, _, _, by rw [he.out], Seq.way, by rw [ho.out, ← hon'.out]; exact (Hval Seq.way).out, by rw [hc.out]; exact Seq.nil _ _ _, by rw [hw.out]; exact Seq.nil _ _ _⟩
  · have hon' := Lib.hid hon
    obtain ⟨W, hW⟩ : ∃ W, W = ((w.alloc (.cells #[.slice fa b.facts.length fc, .int .i64 b.ver, .bool true, .slice ta b.todo.length tc] 25)).alloc (.cells #[.slice none 0 0, .int .i64 0, .bool false, .slice none 0 0] 25)).alloc (.cells #[.bool false] 4) := ⟨_, rfl⟩
    have hbW := Lib.hid (show Below w.heap.size w W by rw [hW]; exact Seq.way)
    have R0 := Lib.hid (show Row 25 W w.heap.size [.slice fa b.facts.length fc, .int .i64 b.ver, .bool true, .slice ta b.todo.length tc] by rw [hW]; exact ((Row.new _ [_, _, _, _] _ rfl).alloc _).alloc _)
    have R1 := Lib.hid (show Row 25 W (w.heap.size + 1) [.slice none 0 0, .int .i64 0, .bool false, .slice none 0 0] by rw [hW]; exact (Row.new _ [_, _, _, _] _ (by simp)).alloc _)
    have R2 := Lib.hid (show Row 4 W (w.heap.size + 2) [.bool false] by rw [hW]; exact Row.new _ [_] _ (by simp))
    have hzW : W.heap.size = w.heap.size + 3 := by rw [hW]; simp
    have HW := Lib.hid hW
    have he := Lib.hid (show commitE b = if fullL b.facts b.todo = true then 2 else 0 by unfold commitE; rw [hon]; rfl)
    have ho := Lib.hid (show commitO b = if fullL b.facts b.todo = false then ⟨nowL b.facts b.todo, b.ver + 1, false, []⟩ else b by unfold commitO; rw [hon]; simp)
    have hc := Lib.hid (show cameO b = if fullL b.facts b.todo = false then lessT (nowL b.facts b.todo) b.facts else [] by unfold cameO; rw [hon]; simp)
    have hw := Lib.hid (show wentO b = if fullL b.facts b.todo = false then lessT b.facts (nowL b.facts b.todo) else [] by unfold wentO; rw [hon]; simp)
    clear hW hon
    go_wp2_with fail
    rw [← HW.out]
    refine (doC_spec (S := fun b => S b ∧ b < w.heap.size) (pb := w.heap.size + 2) (H2.out.at hbW.out) (H3.out.at hbW.out) Hrow.out R2.out (fun b h => by omega)).mono ?_
    rintro e w1 ⟨v1, m, rfl, hb1, hp1, hs1, hrm, hmn⟩
    have hz1 := hp1.lt
    have hbw1 := Lib.hid (show Below w.heap.size w w1 from hbW.out.trans (hb1.mono (by omega)))
    have R01 := Lib.hid (R0.out.below hb1 (by omega))
    have R11 := Lib.hid (R1.out.below hb1 (by omega))
    obtain ⟨c0, c1, c2, c3, d0, d1, d2, d3⟩ := R01.out.four
    obtain ⟨q0, q1, q2, q3, r0, r1, r2, r3⟩ := R11.out.four
    have p0 := hp1.cell (j := 0) (by simp)
    simp only [List.getElem_cons_zero] at p0
    have Hs1 := Lib.hid (hs1.mono (T := fun b => S b ∧ b < w.heap.size ∨ W.heap.size ≤ b) (fun b h _ => h) fun _ _ _ => rfl)
    have Hrm := Lib.hid hrm
    have Hmn := Lib.hid hmn
    obtain ⟨oa, oc, rfl⟩ := hs1.shape
    clear hs1 hrm hmn hp1
    cases hf : fullL b.facts b.todo
    · have hfl := Lib.hid hf
      have hmn := Lib.hid (Hmn.out hf)
      rw [hf] at p0
      rw [← hmn.out] at ho hc hw
      clear hf Hmn
      go_wp2_with fail
      refine (DiffP_spec (H2.out.at hbw1.out) Hs1.out Hrow.out Hrm.out).mono ?_
      rintro e w2 ⟨x, y, rfl, hb2, hsx, hsy⟩
      have hz2 := hb2.size
      have hbw2 := Lib.hid (below_step hb2 hbw1.out)
      obtain ⟨c0, c1, c2, c3, d0, d1, d2, d3⟩ := (R01.out.below hb2 (by omega)).four
      obtain ⟨q0, q1, q2, q3, r0, r1, r2, r3⟩ := (R11.out.below hb2 (by omega)).four
      have R12 := Lib.hid (R11.out.below hb2 (by omega))
      have Hsx := Lib.hid (hsx.mono (T := fun b => S b ∧ b < w.heap.size ∨ W.heap.size ≤ b) (fun b h _ => h.elim id fun h => .inr (by omega)) fun _ _ _ => rfl)
      have Hsy := Lib.hid (hsy.mono (T := fun b => S b ∧ b < w.heap.size ∨ W.heap.size ≤ b) (fun b h _ => h.elim .inl fun h => .inr (by omega)) fun _ _ _ => rfl)
      obtain ⟨xa, xc, rfl⟩ := hsx.shape
      obtain ⟨ya, yc, rfl⟩ := hsy.shape
      have Hs2 := Lib.hid (Hs1.out.at hb2)
      have Ht2 := Lib.hid (H3.out.at hbw2.out)
      have hwr : IntKind.i64.wrap (b.ver + 1) = b.ver + 1 := by rw [IntKind.wrap_i64]; omega
      clear hsx hsy
      go_wp2_with fail
      have hb4 : Below w.heap.size w2 ((w2.setCell ⟨w.heap.size, 0, none⟩ (.slice oa m.length oc)).setCell ⟨w.heap.size, 1, none⟩ (.int .i64 (b.ver + 1))) := Below.set1 (Below.set1 (Below.refl _ _) (Nat.le_refl _)) (Nat.le_refl _)
      have key : ∀ {α : Type} {E : Elt α} {u : Value} {xs : List α}, Seq E (fun b => S b ∧ b < w.heap.size ∨ W.heap.size ≤ b) w2 u xs → Seq E (fun b => S b ∧ b < w.heap.size ∨ W.heap.size ≤ b) ((w2.setCell ⟨w.heap.size, 0, none⟩ (.slice oa m.length oc)).setCell ⟨w.heap.size, 1, none⟩ (.int .i64 (b.ver + 1))) u xs :=
        fun h => h.mono (fun _ h _ => h) fun b h _ => by
          have hne : b ≠ w.heap.size := h.elim (fun h => by omega) fun h => by omega
          rw [Below.heap_setCell _ _ _ _ (fun e => hne e), Below.heap_setCell _ _ _ _ (fun e => hne e)]
      have Hs4 := Lib.hid (key Hs2.out)
      have Hx4 := Lib.hid (key Hsx.out)
      have Hy4 := Lib.hid (key Hsy.out)
      have Ht4 := Lib.hid (key (Ht2.out.mono (fun b h _ => .inl h) fun _ _ _ => rfl))
      have R14 := Lib.hid (show Row 25 ((w2.setCell ⟨w.heap.size, 0, none⟩ (.slice oa m.length oc)).setCell ⟨w.heap.size, 1, none⟩ (.int .i64 (b.ver + 1))) (w.heap.size + 1) [.slice none 0 0, .int .i64 0, .bool false, .slice none 0 0] from (R12.out.setOther _ (by simp)).setOther _ (by simp))
      have hbw4 := Lib.hid (hbw2.out.trans hb4)
      obtain ⟨w4, hw4⟩ : ∃ w4, w4 = ((w2.setCell ⟨w.heap.size, 0, none⟩ (.slice oa m.length oc)).setCell ⟨w.heap.size, 1, none⟩ (.int .i64 (b.ver + 1))) := ⟨_, rfl⟩
      have hz4 : w4.heap.size = w2.heap.size := by rw [hw4]; simp
      rw [← hw4] at Hs4 Hx4 Hy4 Ht4 R14 hbw4 ⊢
      clear hw4 hb4 key c0 c1 c2 c3 d0 d1 d2 d3 q0 q1 q2 q3 r0 r1 r2 r3
      refine (ended_spec (S := fun b => S b ∧ b < w.heap.size ∨ W.heap.size ≤ b) (b := ⟨m, b.ver + 1, true, b.todo⟩) ⟨oa, oc, ta, tc, rfl, ⟨by show _ ≤ b.ver + 1; omega, by show b.ver + 1 ≤ _; omega⟩, Hs4.out, Ht4.out⟩).mono ?_
      rintro e w5 ⟨v5, rfl, hb5, hs5⟩
      have hz5 := hb5.size
      have hbw5 := below_step hb5 hbw4.out
      obtain ⟨q0, q1, q2, q3, r0, r1, r2, r3⟩ := (R14.out.below hb5 (by omega)).four
      obtain ⟨ea, ec, ua, uc, rfl, hi5, hs5, ht5⟩ := hs5
      have Hs5 := Lib.hid hs5
      have Hx5 := Lib.hid (Hx4.out.at hb5)
      have Hy5 := Lib.hid (Hy4.out.at hb5)
      have Ht5 := Lib.hid ht5
      simp only [ended, List.length_nil] at Hs5 Ht5
      clear hs5 ht5 hi5
      go_wp2_with fail
      refine bodyPost_ret (v := .tuple #[.agg #[.slice ea m.length ec, .int .i64 (b.ver + 1), .bool false, .slice ua 0 uc], .slice xa (lessT m b.facts).length xc, .slice ya (lessT b.facts m).length yc, .int .i64 0]) (by simp [results, Try.results19, go_sem, q0, q1, q2, q3, ended]) rfl ?_
      have hbf := below_set4 (g := w.heap.size + 1) (p := .slice ea m.length ec) (q := .int .i64 (b.ver + 1)) (r := .bool false) (s := .slice ua 0 uc) hbw5 (by omega)
      have key : ∀ {α : Type} {E : Elt α} {u : Value} {xs : List α}, Seq E (fun b => S b ∧ b < w.heap.size ∨ W.heap.size ≤ b) w5 u xs → Seq E (Fr S w) ((((w5.setCell ⟨w.heap.size + 1, 0, none⟩ (.slice ea m.length ec)).setCell ⟨w.heap.size + 1, 1, none⟩ (.int .i64 (b.ver + 1))).setCell ⟨w.heap.size + 1, 2, none⟩ (.bool false)).setCell ⟨w.heap.size + 1, 3, none⟩ (.slice ua 0 uc)) u xs :=
        fun h => h.mono (fun b h _ => h.elim (fun h => .inl h.1) fun h => .inr (by omega)) fun b h _ => heap_set4 (h.elim (fun h => by omega) fun h => by omega)
      refine ⟨_, _, _, by rw [he.out, if_neg (by rw [hfl.out]; simp)], hbf, ?_, by rw [hc.out, if_pos hfl.out]; exact key Hx5.out, by rw [hw.out, if_pos hfl.out]; exact key Hy5.out⟩
      rw [ho.out, if_pos hfl.out]
      exact ⟨ea, ec, ua, uc, rfl, ⟨by show _ ≤ b.ver + 1; omega, by show b.ver + 1 ≤ _; omega⟩, key Hs5.out, key Ht5.out⟩
    · have hfl := Lib.hid hf
      rw [hf] at p0
      clear hf Hmn
      go_wp2_with fail
      refine bodyPost_ret (v := .tuple #[.agg #[.slice fa b.facts.length fc, .int .i64 b.ver, .bool true, .slice ta b.todo.length tc], .slice none 0 0, .slice none 0 0, .int .i64 2]) (by simp [results, Try.results19, go_sem, q0, q1, q2, q3]) rfl ?_
      have hbf := below_set4 (g := w.heap.size + 1) (p := .slice fa b.facts.length fc) (q := .int .i64 b.ver) (r := .bool true) (s := .slice ta b.todo.length tc) hbw1.out (by omega)
      exact ⟨_, _, _, by rw [he.out, if_pos hfl.out], hbf, by rw [ho.out, if_neg (by rw [hfl.out]; simp), ← hon'.out]; exact (Hval (by rw [hon'.out]; exact hbf)).out, by rw [hc.out, if_neg (by rw [hfl.out]; simp)]; exact Seq.nil _ _ _, by rw [hw.out, if_neg (by rw [hfl.out]; simp)]; exact Seq.nil _ _ _⟩
end Go.Proofs.Yteefdmpaclnaiaa
