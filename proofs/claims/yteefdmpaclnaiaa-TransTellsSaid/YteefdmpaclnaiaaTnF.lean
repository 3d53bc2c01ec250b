/-
  Layer 13: Commit of the document.
-/
import Derived.Test.YteefdmpaclnaiaaTnE
namespace Go.Proofs.Yteefdmpaclnaiaa
open Go Go.RowKit

set_option maxRecDepth 100000 in
theorem DiffR2_spec {S T : Nat → Prop} {w : World} {v u : Value} {a b : List (List Cell)} (ha : Seq (seqE cellE) S w v a) (hb : Seq (seqE cellE) T w u b) (hla : a.length ≤ 1000000000) (hlb : b.length ≤ 1000000000) :
    Calls Try.prog 48 #[v, u] w (Ret2 (fun x y w' => Seq (seqE cellE) (Fr T w) w' x (lessT b a) ∧ Seq (seqE cellE) (Fr S w) w' y (lessT a b)) w) := by
  have Ha := Lib.hid ha
  have Hb := Lib.hid hb
  obtain ⟨aa, ac, rfl, -⟩ := ha
  obtain ⟨ba, bc, rfl, -⟩ := hb
  go_enter Try.func48, Try.ntmps48
  go_wp2_with fail
  refine (lessR_spec Hb.out Ha.out hlb).mono ?_
  rintro e w1 ⟨v1, rfl, hb1, hs1⟩
  have Hs1 := Lib.hid hs1
  obtain ⟨p1, n1, rfl, -⟩ := hs1
  go_wp2_with fail
  refine (lessR_spec (Ha.out.at hb1) (Hb.out.at hb1) hla).mono ?_
  rintro e w2 ⟨v2, rfl, hb2, hs2⟩
  have Hs2 := Lib.hid hs2
  obtain ⟨p2, n2, rfl, -⟩ := hs2
  go_wp2_with fail
  refine bodyPost_ret (v := .tuple #[.slice p1 (lessT b a).length n1, .slice p2 (lessT a b).length n2]) (by simp [results, Try.results48, go_sem]) rfl ?_
  exact ⟨_, _, rfl, below_step hb2 hb1, Hs1.out.at hb2, Hs2.out.mono (fun b h _ => h.imp id fun h => by have := hb1.size; omega) fun _ _ _ => rfl⟩


def commitO (b : Bas) : Bas := if b.on = true ∧ fullL b.facts b.todo = false then ⟨nowL b.facts b.todo, b.ver + 1, false, []⟩ else b
def cameO (b : Bas) : List (List Cell) := if b.on = true ∧ fullL b.facts b.todo = false then lessT (nowL b.facts b.todo) b.facts else []
def wentO (b : Bas) : List (List Cell) := if b.on = true ∧ fullL b.facts b.todo = false then lessT b.facts (nowL b.facts b.todo) else []
def commitE (b : Bas) : Int := if b.on = true then (if fullL b.facts b.todo = true then 2 else 0) else 131
/-- A base, two rows and an error's number. -/
def Ret4 (P : Value → Value → Value → World → Prop) (n : Int) (w : World) (e : Ending) (w' : World) : Prop := ∃ o x y, e = .returned (.tuple #[o, x, y, .int .i64 n]) ∧ Below w.heap.size w w' ∧ P o x y w'

theorem fullL_pre : ∀ {r s : List Chg} {l : List (List Cell)}, fullL l r = true → fullL l (r ++ s) = true
  | [], _, _, h => by simp [fullL] at h
  | c :: r, s, l, h => by
    rw [List.cons_append]
    simp only [fullL] at h ⊢
    by_cases he : doE l c = 0
    · rw [if_pos he] at h ⊢; exact fullL_pre h
    · rw [if_neg he, Bool.or_eq_true] at h ⊢
      exact h.imp id fullL_pre

set_option maxHeartbeats 4000000 in
set_option maxRecDepth 100000 in
theorem CommitR_spec {S : Nat → Prop} {w : World} {v : Value} {b : Bas} (hb : BasV S w v b) (hrow : RowT b.facts) (hv0 : 0 ≤ b.ver) (hv1 : b.ver ≤ 1099511627776) :
    Calls Try.prog 20 #[v] w (Ret4 (fun o x y w' => BasV (Fr S w) w' o (commitO b) ∧ Seq (seqE cellE) (Fr S w) w' x (cameO b) ∧ Seq (seqE cellE) (Fr S w) w' y (wentO b)) (commitE b) w) := by
  obtain ⟨fa, fc, ta, tc, rfl, h1, h2, h3⟩ := hb.bnd
  have hval : ∀ {w' : World}, Below w.heap.size w w' → BasV (Fr S w) w' (.agg #[.slice fa b.facts.length fc, .int .i64 b.ver, .bool b.on, .slice ta b.todo.length tc]) b := fun {w'} h =>
    (hb.mono (T := Fr S w) (w' := w) (fun b h _ => .inl h) fun _ _ _ => rfl).mono (fun _ h _ => h) fun b _ hl => h.block b hl
  have Hval := fun {w' : World} (h : Below w.heap.size w w') => Lib.hid (hval h)
  have H2 := Lib.hid h2
  obtain ⟨_, _, ee, -, -, hal, -, h5⟩ := h3
  simp only [Value.slice.injEq, true_and] at ee
  obtain ⟨rfl, rfl⟩ := ee
  have Hrow := Lib.hid hrow
  clear h2 hb hrow hval
  go_enter Try.func20, Try.ntmps20
  cases hon : b.on
  · have he := Lib.hid (show commitE b = 131 by unfold commitE; rw [hon]; rfl)
    have ho := Lib.hid (show commitO b = b by unfold commitO; rw [hon]; simp)
    have hc := Lib.hid (show cameO b = [] by unfold cameO; rw [hon]; simp)
    have hw := Lib.hid (show wentO b = [] by unfold wentO; rw [hon]; simp)
    have hon' := Lib.hid hon
    go_wp2_with fail
    refine bodyPost_ret (v := .tuple #[.agg #[.slice fa b.facts.length fc, .int .i64 b.ver, .bool false, .slice ta b.todo.length tc], .slice none 0 0, .slice none 0 0, .int .i64 131]) (by simp [results, Try.results20, go_sem]) rfl ?_
    exact ⟨_, _, _, by rw [he.out], Seq.way, by rw [ho.out, ← hon'.out]; exact (Hval Seq.way).out, by rw [hc.out]; exact Seq.nil _ _ _, by rw [hw.out]; exact Seq.nil _ _ _⟩
  · have hon' := Lib.hid hon
    obtain ⟨W, hW⟩ : ∃ W, W = (w.alloc (.cells #[.slice fa b.facts.length fc, .int .i64 b.ver, .bool true, .slice ta b.todo.length tc] 25)).alloc (.cells #[.slice none 0 0, .int .i64 0, .bool false, .slice none 0 0] 25) := ⟨_, rfl⟩
    have hbW := Lib.hid (show Below w.heap.size w W by rw [hW]; exact Seq.way)
    have R0 := Lib.hid (show Row 25 W w.heap.size [.slice fa b.facts.length fc, .int .i64 b.ver, .bool true, .slice ta b.todo.length tc] by rw [hW]; exact (Row.new _ [_, _, _, _] _ rfl).alloc _)
    have R1 := Lib.hid (show Row 25 W (w.heap.size + 1) [.slice none 0 0, .int .i64 0, .bool false, .slice none 0 0] by rw [hW]; exact Row.new _ [_, _, _, _] _ (by simp))
    have hzW : w.heap.size + 2 ≤ W.heap.size := by rw [hW]; simp
    have HW := Lib.hid hW
    have he := Lib.hid (show commitE b = if fullL b.facts b.todo = true then 2 else 0 by unfold commitE; rw [hon]; rfl)
    have ho := Lib.hid (show commitO b = if fullL b.facts b.todo = false then ⟨nowL b.facts b.todo, b.ver + 1, false, []⟩ else b by unfold commitO; rw [hon]; simp)
    have hc := Lib.hid (show cameO b = if fullL b.facts b.todo = false then lessT (nowL b.facts b.todo) b.facts else [] by unfold cameO; rw [hon]; simp)
    have hw := Lib.hid (show wentO b = if fullL b.facts b.todo = false then lessT b.facts (nowL b.facts b.todo) else [] by unfold wentO; rw [hon]; simp)
    obtain ⟨l, hl⟩ : ∃ l, l = b.todo := ⟨_, rfl⟩
    rw [← hl] at hal h5 he ho hc hw R0 HW Hval ⊢
    clear hW hon hl
    go_wp2_with fail
    rw [← HW.out]
    go_loopw [6, 7] (fun o i wr => ∃ k : Nat, k ≤ l.length ∧ i = .int .i64 k ∧ Hid (fullL b.facts (l.take k) = false) ∧ Seq (seqE cellE) (fun b => S b ∧ b < w.heap.size ∨ W.heap.size ≤ b) wr o (nowL b.facts (l.take k)) ∧ Below W.heap.size W wr) (fun _ i _ => l.length - (intOf i).toNat)
    case atStart => exact ⟨0, Nat.zero_le _, rfl, Lib.hid rfl, (H2.out.at hbW.out).mono (fun _ h _ => .inl h) fun _ _ _ => rfl, Below.refl _ _⟩
    case round =>
      obtain ⟨k, hk, rfl, hnf, hol, hbr⟩ := hrel
      have hbw := below_step hbr hbW.out
      have hzr := hbr.size
      obtain ⟨c0, c1, c2, c3, -, -, -, -⟩ := (R0.out.below hbr (by omega)).four
      have Ho := Lib.hid hol
      obtain ⟨oa, oc, rfl⟩ := hol.shape
      by_cases hlt : k < l.length
      · obtain ⟨b1, o1, pa, pc, rfl, -, hbl, e0, e1, hX⟩ := (h5.below hbw fun _ h _ => h.2).chg hlt
        have hst := Lib.hid (show nowL b.facts (l.take (k + 1)) = if doE (nowL b.facts (l.take k)) l[k] = 0 then doO (nowL b.facts (l.take k)) l[k] else nowL b.facts (l.take k) by
          rw [List.take_succ_eq_append_getElem hlt, nowL_snoc])
        have hfu := Lib.hid (show fullL b.facts (l.take (k + 1)) = (l[k].add && !decide (doE (nowL b.facts (l.take k)) l[k] = 0)) by
          rw [List.take_succ_eq_append_getElem hlt, fullL_snoc, hnf.out, Bool.false_or])
        have hpre := Lib.hid (show fullL b.facts (l.take (k + 1)) = true → fullL b.facts l = true from fun h => by
          have := fullL_pre (s := l.drop (k + 1)) h
          rwa [List.take_append_drop] at this)
        have Hr := Lib.hid (nowL_rowT (todo := l.take k) Hrow.out)
        obtain ⟨m, hm⟩ : ∃ m, m = nowL b.facts (l.take k) := ⟨_, rfl⟩
        rw [← hm] at hst hfu Ho Hr ⊢
        obtain ⟨c, hcc⟩ : ∃ c, c = l[k] := ⟨_, rfl⟩
        rw [← hcc] at hst hfu e0 e1 hX
        have HX := Lib.hid (show ChgV (fun b => S b ∧ b < w.heap.size) wr (.agg #[.bool c.add, .slice pa c.t.length pc]) c from ⟨pa, pc, rfl, hX⟩)
        have hml := Hr.out.len
        clear hm hcc hX h5 hol hnf
        have hkl : (k : Int) < (l.length : Int) := by omega
        have hk0 : (0 : Int) ≤ (k : Int) := by omega
        go_wp2_with fail
        refine (doR_spec Ho.out HX.out (by omega)).mono ?_
        rintro e w1 ⟨v1, rfl, hb1, hs1⟩
        have hbr1 := below_step hb1 hbr
        have hbw1 := below_step hbr1 hbW.out
        have Hs1 := Lib.hid (hs1.mono (T := fun b => S b ∧ b < w.heap.size ∨ W.heap.size ≤ b) (fun b h _ => h.elim (fun h => h.elim id .inl) fun h => .inr (by omega)) fun _ _ _ => rfl)
        obtain ⟨pa2, pc2, rfl⟩ := hs1.shape
        have e0' := (hb1.cell (p := ⟨b1, o1 + k * 2, none⟩) hbl).trans e0
        obtain ⟨d0, d1, d2, d3, -, -, -, -⟩ := (R0.out.below hbr1 (by omega)).four
        obtain ⟨q0, q1, q2, q3, r0, r1, r2, r3⟩ := (R1.out.below hbr1 (by omega)).four
        obtain ⟨e, hee⟩ : ∃ e, e = doE m c := ⟨_, rfl⟩
        rw [← hee] at hst hfu ⊢
        have hb1r := hb1
        clear hs1 hee c0 c1 c2 c3 e0 e1
        by_cases hz : e = 0
        · have hst' := Lib.hid (hst.out.trans (if_pos hz))
          have hfu' := Lib.hid (show fullL b.facts (l.take (k + 1)) = false by rw [hfu.out, hz]; simp)
          subst hz
          go_wp2_with fail
          go_roundw
          case rel => exact ⟨k + 1, hlt, by go_num, hfu', by rw [hst'.out]; exact Hs1.out, hbr1⟩
          case measure => simp [intOf]; omega
        · have hst' := Lib.hid (hst.out.trans (if_neg hz))
          have hz' : (e == 0) = false := by simpa using hz
          obtain ⟨ad, had⟩ : ∃ ad, ad = c.add := ⟨_, rfl⟩
          rw [← had] at hfu e0'
          cases ad
          · have hfu' := Lib.hid (show fullL b.facts (l.take (k + 1)) = false by rw [hfu.out]; simp)
            clear had
            go_wp2_with fail
            go_roundw
            case rel => exact ⟨k + 1, hlt, by go_num, hfu', by rw [hst'.out]; exact Ho.out.at hb1r, hbr1⟩
            case measure => simp [intOf]; omega
          · have hfu' := Lib.hid (show fullL b.facts l = true from hpre.out (by rw [hfu.out]; simp [hz]))
            clear had
            go_wp2_with fail
            refine bodyPost_ret (v := .tuple #[.agg #[.slice fa b.facts.length fc, .int .i64 b.ver, .bool true, .slice (some ⟨b1, o1, none⟩) l.length tc], .slice none 0 0, .slice none 0 0, .int .i64 2]) (by simp [results, Try.results20, go_sem, q0, q1, q2, q3]) rfl ?_
            have hbf := below_set4 (g := w.heap.size + 1) (p := .slice fa b.facts.length fc) (q := .int .i64 b.ver) (r := .bool true) (s := .slice (some ⟨b1, o1, none⟩) l.length tc) hbw1 (by omega)
            exact ⟨_, _, _, by rw [he.out, if_pos hfu'.out], hbf, by rw [ho.out, if_neg (by rw [hfu'.out]; simp), ← hon'.out]; exact (Hval (by rw [hon'.out]; exact hbf)).out, by rw [hc.out, if_neg (by rw [hfu'.out]; simp)]; exact Seq.nil _ _ _, by rw [hw.out, if_neg (by rw [hfu'.out]; simp)]; exact Seq.nil _ _ _⟩
      · obtain rfl : k = l.length := by omega
        rw [List.take_length] at Ho hnf ⊢
        have Hr := Lib.hid (nowL_rowT (todo := l) Hrow.out)
        obtain ⟨m, hm⟩ : ∃ m, m = nowL b.facts l := ⟨_, rfl⟩
        rw [← hm] at Ho Hr ho hc hw ⊢
        have hml := Hr.out.len
        have hfl := Hrow.out.len
        clear hol hm h5
        go_wp2_with fail
        refine (DiffR2_spec (H2.out.at hbw) Ho.out (by omega) (by omega)).mono ?_
        rintro e w1 ⟨x, y, rfl, hb1, hsx, hsy⟩
        have hbr1 := below_step hb1 hbr
        have hbw1 := below_step hbr1 hbW.out
        obtain ⟨d0, d1, d2, d3, -, -, -, -⟩ := (R0.out.below hbr1 (by omega)).four
        obtain ⟨q0, q1, q2, q3, r0, r1, r2, r3⟩ := (R1.out.below hbr1 (by omega)).four
        have Hsx := Lib.hid (hsx.mono (T := fun b => S b ∧ b < w.heap.size ∨ W.heap.size ≤ b) (fun b h _ => h.elim id fun h => .inr (by omega)) fun _ _ _ => rfl)
        have Hsy := Lib.hid (hsy.mono (T := fun b => S b ∧ b < w.heap.size ∨ W.heap.size ≤ b) (fun b h _ => h.elim .inl fun h => .inr (by omega)) fun _ _ _ => rfl)
        obtain ⟨xa, xc, rfl⟩ := hsx.shape
        obtain ⟨ya, yc, rfl⟩ := hsy.shape
        have Ho1 := Lib.hid (Ho.out.at hb1)
        have hwr : IntKind.i64.wrap (b.ver + 1) = b.ver + 1 := by rw [IntKind.wrap_i64]; omega
        clear hsx hsy c0 c1 c2 c3
        go_wp2_with fail
        refine bodyPost_ret (v := .tuple #[.agg #[.slice oa m.length oc, .int .i64 (b.ver + 1), .bool false, .slice none 0 0], .slice xa (lessT m b.facts).length xc, .slice ya (lessT b.facts m).length yc, .int .i64 0]) (by simp [results, Try.results20, go_sem, q0, q1, q2, q3]) rfl ?_
        have hbf := below_set4 (g := w.heap.size + 1) (p := .slice oa m.length oc) (q := .int .i64 (b.ver + 1)) (r := .bool false) (s := .slice none 0 0) hbw1 (by omega)
        have key : ∀ {α : Type} {E : Elt α} {u : Value} {xs : List α}, Seq E (fun b => S b ∧ b < w.heap.size ∨ W.heap.size ≤ b) w1 u xs → Seq E (Fr S w) ((((w1.setCell ⟨w.heap.size + 1, 0, none⟩ (.slice oa m.length oc)).setCell ⟨w.heap.size + 1, 1, none⟩ (.int .i64 (b.ver + 1))).setCell ⟨w.heap.size + 1, 2, none⟩ (.bool false)).setCell ⟨w.heap.size + 1, 3, none⟩ (.slice none 0 0)) u xs :=
          fun h => h.mono (fun b h _ => h.elim (fun h => .inl h.1) fun h => .inr (by omega)) fun b h _ => heap_set4 (h.elim (fun h => by omega) fun h => by omega)
        refine ⟨_, _, _, by rw [he.out, if_neg (by rw [hnf.out]; simp)], hbf, ?_, by rw [hc.out, if_pos hnf.out]; exact key Hsx.out, by rw [hw.out, if_pos hnf.out]; exact key Hsy.out⟩
        rw [ho.out, if_pos hnf.out]
        exact ⟨oa, oc, none, 0, rfl, ⟨by show _ ≤ b.ver + 1; omega, by show b.ver + 1 ≤ _; omega⟩, key Ho1.out, Seq.nil _ _ _⟩
end Go.Proofs.Yteefdmpaclnaiaa
