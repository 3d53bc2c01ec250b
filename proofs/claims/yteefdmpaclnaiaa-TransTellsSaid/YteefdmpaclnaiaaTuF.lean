/-
  Layer 13: the walk of TransTells.
-/
import Derived.Test.YteefdmpaclnaiaaTnT
import Derived.Test.YteefdmpaclnaiaaLiftT
import Derived.Deep.RegionHeld3
import Derived.Deep.Cut
import Derived.Deep.CutRange
import Derived.Deep.DeepCutAuto
import Derived.Outline
namespace Go.Proofs.Yteefdmpaclnaiaa
open Go Go.RowKit

theorem SeqAt.act {S : Nat → Prop} {w : World} {ao : Option Addr} {xs : List ActT} (h : SeqAt actE S w ao xs) {k : Nat} (hk : k < xs.length) :
    ∃ b off ta tc, ao = some ⟨b, off, none⟩ ∧ S b ∧ b < w.heap.size ∧ w.cell? ⟨b, off + k * 3, none⟩ = some (.int .u8 xs[k].d) ∧ w.cell? ⟨b, off + k * 3 + 1, none⟩ = some (.bool xs[k].c.add) ∧
      w.cell? ⟨b, off + k * 3 + 2, none⟩ = some (.slice ta xs[k].c.t.length tc) ∧ Seq cellE S w (.slice ta xs[k].c.t.length tc) xs[k].c.t := by
  obtain ⟨b, off, cs, h1, h2, h3, ⟨v, rfl, hv⟩, h5⟩ := h k _ (List.getElem?_eq_getElem hk)
  obtain ⟨ta, tc, rfl, _⟩ := id hv
  exact ⟨b, off, ta, tc, h1, h2, h3, h5 0 (by decide), h5 1 (by decide), h5 2 (by decide), hv⟩
theorem box_set {S : Nat → Prop} {w : World} {B : Nat} {p q r s : Value} {fa ta : Option Addr} {fc tc : Nat} {b : Bas} (hr : Row 25 w B [p, q, r, s]) (hS : ∀ x, S x → x ≠ B)
    (hv : BasV S w (.agg #[.slice fa b.facts.length fc, .int .i64 b.ver, .bool b.on, .slice ta b.todo.length tc]) b) :
    BoxB S ((((w.setCell ⟨B, 0, none⟩ (.slice fa b.facts.length fc)).setCell ⟨B, 1, none⟩ (.int .i64 b.ver)).setCell ⟨B, 2, none⟩ (.bool b.on)).setCell ⟨B, 3, none⟩ (.slice ta b.todo.length tc)) B b :=
  ⟨fa, fc, ta, tc, hr.set4, hv.mono (fun _ h _ => h) fun x hx _ => heap_set4 (hS x hx)⟩
theorem box_other {S : Nat → Prop} {w : World} {B g : Nat} {p q r s : Value} {b : Bas} (h : BoxB S w B b) (hg : B ≠ g) (hS : ∀ x, S x → x ≠ g) :
    BoxB S ((((w.setCell ⟨g, 0, none⟩ p).setCell ⟨g, 1, none⟩ q).setCell ⟨g, 2, none⟩ r).setCell ⟨g, 3, none⟩ s) B b := by
  obtain ⟨fa, fc, ta, tc, h1, h2⟩ := h
  exact ⟨fa, fc, ta, tc, h1.other4 hg, h2.mono (fun _ h _ => h) fun x hx _ => heap_set4 (hS x hx)⟩
theorem seq_set4 {α : Type} {E : Elt α} {S : Nat → Prop} {w : World} {g : Nat} {p q r s v : Value} {xs : List α} (h : Seq E S w v xs) (hS : ∀ x, S x → x ≠ g) :
    Seq E S ((((w.setCell ⟨g, 0, none⟩ p).setCell ⟨g, 1, none⟩ q).setCell ⟨g, 2, none⟩ r).setCell ⟨g, 3, none⟩ s) v xs :=
  h.mono (fun _ h _ => h) fun x hx _ => heap_set4 (hS x hx)

/-- What holds of the base behind k acts. -/
structure TelI (b : Bas) (k : Nat) : Prop where
  row : RowT b.facts
  v0 : 0 ≤ b.ver
  v1 : b.ver ≤ k
  td : b.todo.length ≤ k
theorem TelI.begin {b : Bas} {k : Nat} (h : TelI b k) : TelI (beginO b) (k + 1) := by
  rw [beginO_eq]
  exact ⟨h.row, h.v0, by have := h.v1; dsimp only; omega, by have := h.td; dsimp only; omega⟩
theorem TelI.change {b : Bas} {k : Nat} {c : Chg} (h : TelI b k) : TelI (changeO b c) (k + 1) := by
  have h1 := h.v1
  have h2 := h.td
  unfold changeO
  split
  · exact ⟨h.row, h.v0, by dsimp only; omega, by simp only [List.length_append, List.length_cons, List.length_nil]; omega⟩
  · exact ⟨h.row, h.v0, by omega, by omega⟩
theorem TelI.commit {b : Bas} {k : Nat} (h : TelI b k) : TelI (commitO b) (k + 1) := by
  have h0 := h.v0
  have h1 := h.v1
  have h2 := h.td
  unfold commitO
  split
  · exact ⟨nowL_rowT h.row, by dsimp only; omega, by dsimp only; omega, by simp⟩
  · exact ⟨h.row, h.v0, by omega, by omega⟩
theorem TelI.back {b : Bas} {k : Nat} (h : TelI b k) : TelI (backO b) (k + 1) := by
  have h0 := h.v0
  have h1 := h.v1
  have h2 := h.td
  unfold backO ended
  split
  · exact ⟨h.row, by dsimp only; omega, by dsimp only; omega, by simp⟩
  · exact ⟨h.row, h.v0, by omega, by omega⟩

set_option maxHeartbeats 8000000 in
set_option maxRecDepth 100000 in
theorem tells_spec {S T U : Nat → Prop} {w : World} {v u z : Value} {b : Bas} {l : List (List Cell)} {acts : List ActT} (hb : BasV S w v b) (hl : Seq (seqE cellE) T w u l) (ha : Seq actE U w z acts) :
    Calls Try.prog 3 #[v, u, z] w (RetV (.bool true) w) := by
  have Hb := Lib.hid hb
  have Hl := Lib.hid hl
  obtain ⟨fa, fc, ta, tc, rfl⟩ := hb.shape
  obtain ⟨la, lc, rfl, -⟩ := hl
  obtain ⟨ra, rc, rfl, -, -, hal, -, h5⟩ := ha.bnd
  have Haw := fun {w' : World} (h : Below w.heap.size w w') => Lib.hid (h5.below h fun _ _ h => h : SeqAt actE (fun x => U x ∧ x < w.heap.size) w' ra acts)
  clear h5 hb
  obtain ⟨W0, hW0⟩ : ∃ W, W = w.alloc (.cells #[.slice fa b.facts.length fc, .int .i64 b.ver, .bool b.on, .slice ta b.todo.length tc] 25) := ⟨_, rfl⟩
  have hr0 : Row 25 W0 w.heap.size [.slice fa b.facts.length fc, .int .i64 b.ver, .bool b.on, .slice ta b.todo.length tc] := by rw [hW0]; exact Row.new w [_, _, _, _] _ rfl
  have HS0 := Lib.hid (show Below w.heap.size w W0 by rw [hW0]; exact Seq.way)
  have Q0 := fun {w' : World} (h : Below W0.heap.size W0 w') => Lib.hid ((rowTo hr0 h).four)
  have HW0 := Lib.hid hW0
  clear hW0 hr0
  go_enter Try.func3, Try.ntmps3
  go_wp2_with fail
  rw [← HW0.out]
  refine head_spec.mono ?_
  rintro e w1 ⟨rfl, hb1⟩
  have H01 := Lib.hid hb1
  clear hb1
  obtain ⟨c0, c1, c2, c3, -, -, -, -⟩ := (Q0 H01.out).out
  go_wp2_with fail
  refine (GreatB_spec (Hb.out.at (below_step H01.out HS0.out))).mono ?_
  rintro e w2 ⟨bo, rfl, hb2, hg⟩
  have H02 := Lib.hid (below_step hb2 H01.out)
  have HZ2 := Lib.hid (below_step H02.out HS0.out)
  clear hb2 hg c0 c1 c2 c3
  cases bo
  rotate_left 1
  · go_wp2_with fail
    go_ret
    exact ⟨rfl, HZ2.out⟩
  by_cases hl60 : (60 : Int) < l.length
  · go_wp2_with fail
    go_ret
    exact ⟨rfl, HZ2.out⟩
  by_cases ha60 : (60 : Int) < acts.length
  · go_wp2_with fail
    go_ret
    exact ⟨rfl, HZ2.out⟩
  obtain ⟨rb, hrb⟩ : ∃ rb, rb = rightB b := ⟨_, rfl⟩
  have Kp : ∀ {w' : World}, Below w2.heap.size w2 w' → w'.cell? ⟨w.heap.size, 0, none⟩ = some (.slice fa b.facts.length fc) ∧ w'.cell? ⟨w.heap.size, 1, none⟩ = some (.int .i64 b.ver) ∧ w'.cell? ⟨w.heap.size, 2, none⟩ = some (.bool b.on) ∧ w'.cell? ⟨w.heap.size, 3, none⟩ = some (.slice ta b.todo.length tc) := fun h =>
    have q := (Q0 (below_step h H02.out)).out
    ⟨q.1, q.2.1, q.2.2.1, q.2.2.2.1⟩
  have kB : ∀ {w' : World}, Below w2.heap.size w2 w' → BasV S w' (.agg #[.slice fa b.facts.length fc, .int .i64 b.ver, .bool b.on, .slice ta b.todo.length tc]) b := fun h => Hb.out.at (below_step h HZ2.out)
  have p1 : Below w2.heap.size w2 w2.drew := Seq.way
  go_upto_region 4 with fail
  go_region_held3 (fun w' => w'.cell? ⟨w.heap.size, 0, none⟩ = some (.slice fa b.facts.length fc) ∧ w'.cell? ⟨w.heap.size, 1, none⟩ = some (.int .i64 b.ver) ∧ w'.cell? ⟨w.heap.size, 2, none⟩ = some (.bool b.on) ∧ w'.cell? ⟨w.heap.size, 3, none⟩ = some (.slice ta b.todo.length tc))
    (first | (with_reducible exact Kp p1) | (with_reducible exact Kp HB6) | (with_reducible exact Kp HB5) | go_keep)
    (first
      | (go_at_call 12; (with_reducible refine (RightP13_spec (kB p1)).mono ?_); rintro e w5 ⟨rfl, hb5⟩; rw [← hrb]; have HB5 := below_step hb5 p1)
      | (go_at_call 13; (with_reducible refine (RightR13_spec (kB HB5)).mono ?_); rintro e w6 ⟨rfl, hb6⟩; rw [← hrb]; have HB6 := below_step hb6 HB5))
  have HZ6 := Lib.hid (below_step HB6 HZ2.out)
  clear Kp kB p1 hb5 hb6 HB5 HB6 hrb
  go_wp2_with fail
  refine (MadeB_spec (Hl.out.at HZ6.out)).mono ?_
  rintro e w3 ⟨v3, rfl, hb3, hs3⟩
  have HZ3 := Lib.hid (below_step hb3 HZ6.out)
  have hI0 : TelI (madeB l) 0 := ⟨(rowF_rowT l).1, Int.le_refl _, Int.le_refl _, Nat.le_refl _⟩
  obtain ⟨m0, hm0⟩ : ∃ m, m = madeB l := ⟨_, rfl⟩
  rw [← hm0] at hs3 hI0
  have Hs3 := Lib.hid (show BasV (fun _ => True) w3 v3 m0 from hs3.mono (fun _ _ _ => trivial) fun _ _ _ => rfl)
  obtain ⟨ga, gc, ua, uc, rfl⟩ := hs3.shape
  clear hs3 hb3 hm0
  go_upto_region 8 with fail
  obtain ⟨W4, hW4⟩ : ∃ W, W = (w3.alloc (.cells #[.slice ga m0.facts.length gc, .int .i64 m0.ver, .bool m0.on, .slice ua m0.todo.length uc] 25)).alloc (.cells #[.slice ga m0.facts.length gc, .int .i64 m0.ver, .bool m0.on, .slice ua m0.todo.length uc] 25) := ⟨_, rfl⟩
  obtain ⟨B8, hB8⟩ : ∃ B, B = w3.heap.size := ⟨_, rfl⟩
  obtain ⟨B9, hB9⟩ : ∃ B, B = w3.heap.size + 1 := ⟨_, rfl⟩
  have hx4 := Lib.hid (show BoxB (fun x => x ≠ B8 ∧ x ≠ B9) W4 B8 m0 ∧ BoxB (fun x => x ≠ B8 ∧ x ≠ B9) W4 B9 m0 by
    have hv : BasV (fun x => x ≠ B8 ∧ x ≠ B9) W4 (.agg #[.slice ga m0.facts.length gc, .int .i64 m0.ver, .bool m0.on, .slice ua m0.todo.length uc]) m0 := by
      rw [hW4]
      exact (Hs3.out.bnd.mono (T := fun x => x ≠ B8 ∧ x ≠ B9) (fun x hx _ => by have h := hx.2; omega) fun _ _ _ => rfl).at Seq.way
    refine ⟨⟨ga, gc, ua, uc, ?_, hv⟩, ⟨ga, gc, ua, uc, ?_, hv⟩⟩
    · rw [hW4]; exact (Row.new w3 [_, _, _, _] _ hB8).alloc _
    · rw [hW4]; exact Row.new _ [_, _, _, _] _ (by simp [hB9]))
  have hZ4 := Lib.hid (show Below w.heap.size w W4 by rw [hW4]; exact below_step Seq.way HZ3.out)
  have hne : B9 ≠ B8 := by omega
  have hne' : B8 ≠ B9 := by omega
  have hw8 : w.heap.size ≤ B8 := by have := HZ3.out.size; omega
  have hw9 : w.heap.size ≤ B9 := by omega
  have hl4 : B8 < W4.heap.size ∧ B9 < W4.heap.size := by rw [hW4]; simp; omega
  rw [← hW4, ← hB9, ← hB8]
  clear hW4 hB8 hB9 Hs3
  go_wp2_with fail
  go_loopw [10] (fun i wr => ∃ k : Nat, k ≤ acts.length ∧ i = .int .i64 k ∧ ∃ m, TelI m k ∧ BoxB (fun x => x ≠ B8 ∧ x ≠ B9) wr B8 m ∧ BoxB (fun x => x ≠ B8 ∧ x ≠ B9) wr B9 m ∧ Below w.heap.size w wr) (fun i _ => acts.length - (intOf i).toNat)
  case atStart => exact ⟨0, Nat.zero_le _, rfl, m0, hI0, hx4.out.1, hx4.out.2, hZ4.out⟩
  case round =>
    obtain ⟨k, hk, rfl, m, hI, hx, hy, hbr⟩ := hrel
    have Hbr := Lib.hid hbr
    have Hx := Lib.hid hx
    have Hy := Lib.hid hy
    have HI := Lib.hid hI
    have hzr := hbr.size
    have l8 : B8 < wr.heap.size := by obtain ⟨_, _, _, _, h, -⟩ := hx; exact h.lt
    have l9 : B9 < wr.heap.size := by obtain ⟨_, _, _, _, h, -⟩ := hy; exact h.lt
    clear hx hy hI hbr
    by_cases hlt : k < acts.length
    · obtain ⟨b1, o1, pa, pc, rfl, -, hlb, e0, e1, e2, hX⟩ := (Haw Hbr.out).out.act hlt
      obtain ⟨⟨d, ⟨xa, xt⟩⟩, hxe⟩ : ∃ x, x = acts[k] := ⟨_, rfl⟩
      rw [← hxe] at e0 e1 e2 hX
      dsimp only at e0 e1 e2 hX
      have HX := Lib.hid hX
      clear hX hxe
      have hkl : (k : Int) < (acts.length : Int) := by omega
      have hk0 : (0 : Int) ≤ (k : Int) := by omega
      by_cases h60 : (60 : Int) < xt.length
      · go_wp2_with fail
        go_ret
        exact ⟨rfl, below_step Seq.way Hbr.out⟩
      obtain ⟨W5, hW5⟩ : ∃ W, W = wr.alloc (.cells #[.bool xa, .slice pa xt.length pc] 32) := ⟨_, rfl⟩
      have hr11 := Lib.hid (show Row 32 W5 wr.heap.size [.bool xa, .slice pa xt.length pc] by rw [hW5]; exact Row.new wr [_, _] _ rfl)
      have H5 := Lib.hid (show Below wr.heap.size wr W5 by rw [hW5]; exact Seq.way)
      have Hw5 := Lib.hid (below_step H5.out Hbr.out)
      have Hx5 := Lib.hid (Hx.out.at H5.out)
      have Hy5 := Lib.hid (Hy.out.at H5.out)
      have hC : ∀ {w' : World}, Below w.heap.size w w' → ChgV (fun x => x ≠ B8 ∧ x ≠ B9) w' (.agg #[.bool xa, .slice pa xt.length pc]) ⟨xa, xt⟩ := fun {w'} h =>
        ⟨pa, pc, rfl, HX.out.mono (fun x hx _ => ⟨by have := hx.2; omega, by have := hx.2; omega⟩) fun x hx _ => (h.block x hx.2).trans (Hbr.out.block x hx.2).symm⟩
      obtain ⟨xa8, xb8, xc8, xd8, hr8', hv8⟩ := Hx5.out
      obtain ⟨ya9, yb9, yc9, yd9, hr9', hv9⟩ := Hy5.out
      have HX5 := Lib.hid hv8
      have HY5 := Lib.hid hv9
      have hr8 := Lib.hid hr8'
      have hr9 := Lib.hid hr9'
      clear hr8' hr9' hv8 hv9
      go_upto_region 17 with fail
      rw [← hW5]
      have h11 : wr.heap.size ≠ B8 := by omega
      have h11' : wr.heap.size ≠ B9 := by omega
      have l85 : B8 < W5.heap.size := hr8.out.lt
      have l95 : B9 < W5.heap.size := hr9.out.lt
      have l115 : wr.heap.size < W5.heap.size := hr11.out.lt
      have e05 : W5.cell? ⟨b1, o1 + k * 3, none⟩ = some (.int .u8 d) := (H5.out.cell hlb).trans e0
      clear hW5 e0 e1 e2
      go_cut [60] (fun s60 wx => s60 = .int .u8 d ∧ wx = W5)
      case first =>
        go_wp2_with fail
        go_meet
        exact ⟨rfl, rfl⟩
      obtain ⟨rfl, rfl⟩ := hcut
      rename_i hA
      refine hA _ _ ?_
      clear e05
      go_cut [12, 13, 14, 15, 16, 17] (fun s12 s13 s14 s15 s16 s17 wx => ∃ m' n C1 C2, s12 = .int .i64 n ∧ s13 = .int .i64 n ∧ Seq (seqE cellE) (fun x => x ≠ B8 ∧ x ≠ B9) wx s14 C1 ∧ Seq (seqE cellE) (fun x => x ≠ B8 ∧ x ≠ B9) wx s15 C2 ∧ Seq (seqE cellE) (fun x => x ≠ B8 ∧ x ≠ B9) wx s16 C1 ∧ Seq (seqE cellE) (fun x => x ≠ B8 ∧ x ≠ B9) wx s17 C2 ∧
        TelI m' (k + 1) ∧ BoxB (fun x => x ≠ B8 ∧ x ≠ B9) wx B8 m' ∧ BoxB (fun x => x ≠ B8 ∧ x ≠ B9) wx B9 m' ∧ Below w.heap.size w wx)
      case first =>
        obtain ⟨c0, c1, c2, c3, d0, d1, d2, d3⟩ := hr8.out.four
        obtain ⟨f0, f1, f2, f3, g0, g1, g2, g3⟩ := hr9.out.four
        obtain ⟨q0, q1⟩ := hr11.out.two
        by_cases hd0 : d = 0
        · subst hd0
          go_wp2_with fail
          refine (BeginP_spec (HX5.out)).mono ?_
          rintro e w4 ⟨ow4, rfl, hbw4, how4⟩
          have hzw4 := hbw4.size
          have How4 := Lib.hid (show BasV (fun x => x ≠ B8 ∧ x ≠ B9) w4 ow4 (beginO m) from how4)
          obtain ⟨oaw4, ocw4, otw4, odw4, rfl⟩ := how4.shape
          have Hbw4 := Lib.hid hbw4
          clear how4 hbw4
          have R8 := Lib.hid (rowTo hr8.out Hbw4.out)
          have R9 := Lib.hid (rowTo hr9.out Hbw4.out)
          have R11 := Lib.hid (rowTo hr11.out Hbw4.out)
          have Hy4 := Lib.hid (Hy5.out.at Hbw4.out)
          clear c0 c1 c2 c3 d0 d1 d2 d3 f0 f1 f2 f3 g0 g1 g2 g3 q0 q1
          obtain ⟨c0, c1, c2, c3, d0, d1, d2, d3⟩ := R8.out.four
          obtain ⟨f0, f1, f2, f3, g0, g1, g2, g3⟩ := R9.out.four
          obtain ⟨q0, q1⟩ := R11.out.two
          have l84 := R8.out.lt
          have l94 := R9.out.lt
          have l114 := R11.out.lt
          go_wp2_with fail
          obtain ⟨W6, hW6⟩ : ∃ W, W = ((((w4.setCell ⟨B8, 0, none⟩ (.slice oaw4 (beginO m).facts.length ocw4)).setCell ⟨B8, 1, none⟩ (.int .i64 (beginO m).ver)).setCell ⟨B8, 2, none⟩ (.bool (beginO m).on)).setCell ⟨B8, 3, none⟩ (.slice otw4 (beginO m).todo.length odw4)) := ⟨_, rfl⟩
          rw [← hW6]
          have Hx6 := Lib.hid (show BoxB (fun x => x ≠ B8 ∧ x ≠ B9) W6 B8 (beginO m) by rw [hW6]; exact box_set R8.out (fun _ h => h.1) How4.out)
          have Hy6 := Lib.hid (show BoxB (fun x => x ≠ B8 ∧ x ≠ B9) W6 B9 m by rw [hW6]; exact box_other Hy4.out hne (fun _ h => h.1))
          have HY6 := Lib.hid (show BasV (fun x => x ≠ B8 ∧ x ≠ B9) W6 (.agg #[.slice ya9 m.facts.length yb9, .int .i64 m.ver, .bool m.on, .slice yc9 m.todo.length yd9]) m by rw [hW6]; exact (HY5.out.at Hbw4.out).mono (fun _ h _ => h) fun x hx _ => heap_set4 hx.1)
          have R96 := Lib.hid (show Row 25 W6 B9 _ by rw [hW6]; exact R9.out.other4 hne)
          have Hb6 := Lib.hid (show Below w.heap.size w W6 by rw [hW6]; exact below_set4 (below_step Hbw4.out Hw5.out) hw8)
          have l86 : W6.heap.size = w4.heap.size := by rw [hW6]; simp
          clear hW6 c0 c1 c2 c3 d0 d1 d2 d3 f0 f1 f2 f3 g0 g1 g2 g3 q0 q1
          refine (BeginR_spec HY6.out).mono ?_
          rintro e w7 ⟨ow7, rfl, hbw7, how7⟩
          have hzw7 := hbw7.size
          have How7 := Lib.hid (show BasV (fun x => x ≠ B8 ∧ x ≠ B9) w7 ow7 (beginO m) from how7)
          obtain ⟨oaw7, ocw7, otw7, odw7, rfl⟩ := how7.shape
          have Hbw7 := Lib.hid hbw7
          clear how7 hbw7
          have Hx7 := Lib.hid (Hx6.out.at Hbw7.out)
          have R97 := Lib.hid (rowTo R96.out Hbw7.out)
          have Hb7 := Lib.hid (below_step Hbw7.out Hb6.out)
          obtain ⟨f0, f1, f2, f3, g0, g1, g2, g3⟩ := R97.out.four
          have l97 := R97.out.lt
          go_wp2_with fail
          go_meet
          exact ⟨beginO m, beginE m, [], [], rfl, rfl, Seq.nil _ _ _, Seq.nil _ _ _, Seq.nil _ _ _, Seq.nil _ _ _, HI.out.begin, box_other Hx7.out hne' (fun _ h => h.2), box_set R97.out (fun _ h => h.2) How7.out, below_set4 Hb7.out hw9⟩
        by_cases hd1 : d = 1
        · subst hd1
          clear hd0
          go_wp2_with fail
          refine (ChangeP_spec (HX5.out) (hC Hw5.out) (by have := HI.out.td; omega)).mono ?_
          rintro e w4 ⟨ow4, rfl, hbw4, how4⟩
          have hzw4 := hbw4.size
          have How4 := Lib.hid (show BasV (fun x => x ≠ B8 ∧ x ≠ B9) w4 ow4 (changeO m ⟨xa, xt⟩) from how4.mono (fun x hx _ => hx.elim id fun h => ⟨by omega, by omega⟩) fun _ _ _ => rfl)
          obtain ⟨oaw4, ocw4, otw4, odw4, rfl⟩ := how4.shape
          have Hbw4 := Lib.hid hbw4
          clear how4 hbw4
          have R8 := Lib.hid (rowTo hr8.out Hbw4.out)
          have R9 := Lib.hid (rowTo hr9.out Hbw4.out)
          have R11 := Lib.hid (rowTo hr11.out Hbw4.out)
          have Hy4 := Lib.hid (Hy5.out.at Hbw4.out)
          clear c0 c1 c2 c3 d0 d1 d2 d3 f0 f1 f2 f3 g0 g1 g2 g3 q0 q1
          obtain ⟨c0, c1, c2, c3, d0, d1, d2, d3⟩ := R8.out.four
          obtain ⟨f0, f1, f2, f3, g0, g1, g2, g3⟩ := R9.out.four
          obtain ⟨q0, q1⟩ := R11.out.two
          have l84 := R8.out.lt
          have l94 := R9.out.lt
          have l114 := R11.out.lt
          go_wp2_with fail
          obtain ⟨W6, hW6⟩ : ∃ W, W = ((((w4.setCell ⟨B8, 0, none⟩ (.slice oaw4 (changeO m ⟨xa, xt⟩).facts.length ocw4)).setCell ⟨B8, 1, none⟩ (.int .i64 (changeO m ⟨xa, xt⟩).ver)).setCell ⟨B8, 2, none⟩ (.bool (changeO m ⟨xa, xt⟩).on)).setCell ⟨B8, 3, none⟩ (.slice otw4 (changeO m ⟨xa, xt⟩).todo.length odw4)) := ⟨_, rfl⟩
          rw [← hW6]
          have Hx6 := Lib.hid (show BoxB (fun x => x ≠ B8 ∧ x ≠ B9) W6 B8 (changeO m ⟨xa, xt⟩) by rw [hW6]; exact box_set R8.out (fun _ h => h.1) How4.out)
          have Hy6 := Lib.hid (show BoxB (fun x => x ≠ B8 ∧ x ≠ B9) W6 B9 m by rw [hW6]; exact box_other Hy4.out hne (fun _ h => h.1))
          have HY6 := Lib.hid (show BasV (fun x => x ≠ B8 ∧ x ≠ B9) W6 (.agg #[.slice ya9 m.facts.length yb9, .int .i64 m.ver, .bool m.on, .slice yc9 m.todo.length yd9]) m by rw [hW6]; exact (HY5.out.at Hbw4.out).mono (fun _ h _ => h) fun x hx _ => heap_set4 hx.1)
          have R96 := Lib.hid (show Row 25 W6 B9 _ by rw [hW6]; exact R9.out.other4 hne)
          have Hb6 := Lib.hid (show Below w.heap.size w W6 by rw [hW6]; exact below_set4 (below_step Hbw4.out Hw5.out) hw8)
          have l86 : W6.heap.size = w4.heap.size := by rw [hW6]; simp
          clear hW6 c0 c1 c2 c3 d0 d1 d2 d3 f0 f1 f2 f3 g0 g1 g2 g3 q0 q1
          refine (ChangeR_spec HY6.out (hC Hb6.out) (by have := HI.out.td; omega)).mono ?_
          rintro e w7 ⟨ow7, rfl, hbw7, how7⟩
          have hzw7 := hbw7.size
          have How7 := Lib.hid (show BasV (fun x => x ≠ B8 ∧ x ≠ B9) w7 ow7 (changeO m ⟨xa, xt⟩) from how7.mono (fun x hx _ => hx.elim id fun h => ⟨by omega, by omega⟩) fun _ _ _ => rfl)
          obtain ⟨oaw7, ocw7, otw7, odw7, rfl⟩ := how7.shape
          have Hbw7 := Lib.hid hbw7
          clear how7 hbw7
          have Hx7 := Lib.hid (Hx6.out.at Hbw7.out)
          have R97 := Lib.hid (rowTo R96.out Hbw7.out)
          have Hb7 := Lib.hid (below_step Hbw7.out Hb6.out)
          obtain ⟨f0, f1, f2, f3, g0, g1, g2, g3⟩ := R97.out.four
          have l97 := R97.out.lt
          go_wp2_with fail
          go_meet
          exact ⟨changeO m ⟨xa, xt⟩, changeN m ⟨xa, xt⟩, [], [], rfl, rfl, Seq.nil _ _ _, Seq.nil _ _ _, Seq.nil _ _ _, Seq.nil _ _ _, HI.out.change, box_other Hx7.out hne' (fun _ h => h.2), box_set R97.out (fun _ h => h.2) How7.out, below_set4 Hb7.out hw9⟩
        by_cases hd2 : d = 2
        · subst hd2
          clear hd0 hd1
          go_wp2_with fail
          refine (CommitP_spec (HX5.out) HI.out.row HI.out.v0 (by have := HI.out.v1; omega)).mono ?_
          rintro e w4 ⟨ow4, xw4, yw4, rfl, hbw4, how4, hxw4, hyw4⟩
          have hzw4 := hbw4.size
          have How4 := Lib.hid (show BasV (fun x => x ≠ B8 ∧ x ≠ B9) w4 ow4 (commitO m) from how4.mono (fun x hx _ => hx.elim id fun h => ⟨by omega, by omega⟩) fun _ _ _ => rfl)
          have Hxw4 := Lib.hid (show Seq (seqE cellE) (fun x => x ≠ B8 ∧ x ≠ B9) w4 xw4 (cameO m) from hxw4.mono (fun x hx _ => hx.elim id fun h => ⟨by omega, by omega⟩) fun _ _ _ => rfl)
          obtain ⟨xaw4, xcw4, rfl⟩ := hxw4.shape
          have Hyw4 := Lib.hid (show Seq (seqE cellE) (fun x => x ≠ B8 ∧ x ≠ B9) w4 yw4 (wentO m) from hyw4.mono (fun x hx _ => hx.elim id fun h => ⟨by omega, by omega⟩) fun _ _ _ => rfl)
          obtain ⟨yaw4, ycw4, rfl⟩ := hyw4.shape
          clear hxw4 hyw4
          obtain ⟨oaw4, ocw4, otw4, odw4, rfl⟩ := how4.shape
          have Hbw4 := Lib.hid hbw4
          clear how4 hbw4
          have R8 := Lib.hid (rowTo hr8.out Hbw4.out)
          have R9 := Lib.hid (rowTo hr9.out Hbw4.out)
          have R11 := Lib.hid (rowTo hr11.out Hbw4.out)
          have Hy4 := Lib.hid (Hy5.out.at Hbw4.out)
          clear c0 c1 c2 c3 d0 d1 d2 d3 f0 f1 f2 f3 g0 g1 g2 g3 q0 q1
          obtain ⟨c0, c1, c2, c3, d0, d1, d2, d3⟩ := R8.out.four
          obtain ⟨f0, f1, f2, f3, g0, g1, g2, g3⟩ := R9.out.four
          obtain ⟨q0, q1⟩ := R11.out.two
          have l84 := R8.out.lt
          have l94 := R9.out.lt
          have l114 := R11.out.lt
          go_wp2_with fail
          obtain ⟨W6, hW6⟩ : ∃ W, W = ((((w4.setCell ⟨B8, 0, none⟩ (.slice oaw4 (commitO m).facts.length ocw4)).setCell ⟨B8, 1, none⟩ (.int .i64 (commitO m).ver)).setCell ⟨B8, 2, none⟩ (.bool (commitO m).on)).setCell ⟨B8, 3, none⟩ (.slice otw4 (commitO m).todo.length odw4)) := ⟨_, rfl⟩
          rw [← hW6]
          have Hx6 := Lib.hid (show BoxB (fun x => x ≠ B8 ∧ x ≠ B9) W6 B8 (commitO m) by rw [hW6]; exact box_set R8.out (fun _ h => h.1) How4.out)
          have Hy6 := Lib.hid (show BoxB (fun x => x ≠ B8 ∧ x ≠ B9) W6 B9 m by rw [hW6]; exact box_other Hy4.out hne (fun _ h => h.1))
          have HY6 := Lib.hid (show BasV (fun x => x ≠ B8 ∧ x ≠ B9) W6 (.agg #[.slice ya9 m.facts.length yb9, .int .i64 m.ver, .bool m.on, .slice yc9 m.todo.length yd9]) m by rw [hW6]; exact (HY5.out.at Hbw4.out).mono (fun _ h _ => h) fun x hx _ => heap_set4 hx.1)
          have R96 := Lib.hid (show Row 25 W6 B9 _ by rw [hW6]; exact R9.out.other4 hne)
          have Hb6 := Lib.hid (show Below w.heap.size w W6 by rw [hW6]; exact below_set4 (below_step Hbw4.out Hw5.out) hw8)
          have l86 : W6.heap.size = w4.heap.size := by rw [hW6]; simp
          have HXw6 := Lib.hid (show Seq (seqE cellE) (fun x => x ≠ B8 ∧ x ≠ B9) W6 (.slice xaw4 (cameO m).length xcw4) (cameO m) by rw [hW6]; exact seq_set4 Hxw4.out fun _ h => h.1)
          have HYw6 := Lib.hid (show Seq (seqE cellE) (fun x => x ≠ B8 ∧ x ≠ B9) W6 (.slice yaw4 (wentO m).length ycw4) (wentO m) by rw [hW6]; exact seq_set4 Hyw4.out fun _ h => h.1)
          clear hW6 c0 c1 c2 c3 d0 d1 d2 d3 f0 f1 f2 f3 g0 g1 g2 g3 q0 q1
          refine (CommitR_spec HY6.out HI.out.row HI.out.v0 (by have := HI.out.v1; omega)).mono ?_
          rintro e w7 ⟨ow7, xw7, yw7, rfl, hbw7, how7, hxw7, hyw7⟩
          have hzw7 := hbw7.size
          have How7 := Lib.hid (show BasV (fun x => x ≠ B8 ∧ x ≠ B9) w7 ow7 (commitO m) from how7.mono (fun x hx _ => hx.elim id fun h => ⟨by omega, by omega⟩) fun _ _ _ => rfl)
          have Hxw7 := Lib.hid (show Seq (seqE cellE) (fun x => x ≠ B8 ∧ x ≠ B9) w7 xw7 (cameO m) from hxw7.mono (fun x hx _ => hx.elim id fun h => ⟨by omega, by omega⟩) fun _ _ _ => rfl)
          obtain ⟨xaw7, xcw7, rfl⟩ := hxw7.shape
          have Hyw7 := Lib.hid (show Seq (seqE cellE) (fun x => x ≠ B8 ∧ x ≠ B9) w7 yw7 (wentO m) from hyw7.mono (fun x hx _ => hx.elim id fun h => ⟨by omega, by omega⟩) fun _ _ _ => rfl)
          obtain ⟨yaw7, ycw7, rfl⟩ := hyw7.shape
          clear hxw7 hyw7
          obtain ⟨oaw7, ocw7, otw7, odw7, rfl⟩ := how7.shape
          have Hbw7 := Lib.hid hbw7
          clear how7 hbw7
          have Hx7 := Lib.hid (Hx6.out.at Hbw7.out)
          have R97 := Lib.hid (rowTo R96.out Hbw7.out)
          have Hb7 := Lib.hid (below_step Hbw7.out Hb6.out)
          obtain ⟨f0, f1, f2, f3, g0, g1, g2, g3⟩ := R97.out.four
          have l97 := R97.out.lt
          go_wp2_with fail
          go_meet
          exact ⟨commitO m, commitE m, cameO m, wentO m, rfl, rfl, seq_set4 (HXw6.out.at Hbw7.out) (fun _ h => h.2), seq_set4 (HYw6.out.at Hbw7.out) (fun _ h => h.2), seq_set4 Hxw7.out (fun _ h => h.2), seq_set4 Hyw7.out (fun _ h => h.2), HI.out.commit, box_other Hx7.out hne' (fun _ h => h.2), box_set R97.out (fun _ h => h.2) How7.out, below_set4 Hb7.out hw9⟩
        go_wp2_with fail
        refine (BackP_spec (HX5.out)).mono ?_
        rintro e w4 ⟨ow4, rfl, hbw4, how4⟩
        have hzw4 := hbw4.size
        have How4 := Lib.hid (show BasV (fun x => x ≠ B8 ∧ x ≠ B9) w4 ow4 (backO m) from how4)
        obtain ⟨oaw4, ocw4, otw4, odw4, rfl⟩ := how4.shape
        have Hbw4 := Lib.hid hbw4
        clear how4 hbw4
        have R8 := Lib.hid (rowTo hr8.out Hbw4.out)
        have R9 := Lib.hid (rowTo hr9.out Hbw4.out)
        have R11 := Lib.hid (rowTo hr11.out Hbw4.out)
        have Hy4 := Lib.hid (Hy5.out.at Hbw4.out)
        clear c0 c1 c2 c3 d0 d1 d2 d3 f0 f1 f2 f3 g0 g1 g2 g3 q0 q1
        obtain ⟨c0, c1, c2, c3, d0, d1, d2, d3⟩ := R8.out.four
        obtain ⟨f0, f1, f2, f3, g0, g1, g2, g3⟩ := R9.out.four
        obtain ⟨q0, q1⟩ := R11.out.two
        have l84 := R8.out.lt
        have l94 := R9.out.lt
        have l114 := R11.out.lt
        go_wp2_with fail
        obtain ⟨W6, hW6⟩ : ∃ W, W = ((((w4.setCell ⟨B8, 0, none⟩ (.slice oaw4 (backO m).facts.length ocw4)).setCell ⟨B8, 1, none⟩ (.int .i64 (backO m).ver)).setCell ⟨B8, 2, none⟩ (.bool (backO m).on)).setCell ⟨B8, 3, none⟩ (.slice otw4 (backO m).todo.length odw4)) := ⟨_, rfl⟩
        rw [← hW6]
        have Hx6 := Lib.hid (show BoxB (fun x => x ≠ B8 ∧ x ≠ B9) W6 B8 (backO m) by rw [hW6]; exact box_set R8.out (fun _ h => h.1) How4.out)
        have Hy6 := Lib.hid (show BoxB (fun x => x ≠ B8 ∧ x ≠ B9) W6 B9 m by rw [hW6]; exact box_other Hy4.out hne (fun _ h => h.1))
        have HY6 := Lib.hid (show BasV (fun x => x ≠ B8 ∧ x ≠ B9) W6 (.agg #[.slice ya9 m.facts.length yb9, .int .i64 m.ver, .bool m.on, .slice yc9 m.todo.length yd9]) m by rw [hW6]; exact (HY5.out.at Hbw4.out).mono (fun _ h _ => h) fun x hx _ => heap_set4 hx.1)
        have R96 := Lib.hid (show Row 25 W6 B9 _ by rw [hW6]; exact R9.out.other4 hne)
        have Hb6 := Lib.hid (show Below w.heap.size w W6 by rw [hW6]; exact below_set4 (below_step Hbw4.out Hw5.out) hw8)
        have l86 : W6.heap.size = w4.heap.size := by rw [hW6]; simp
        clear hW6 c0 c1 c2 c3 d0 d1 d2 d3 f0 f1 f2 f3 g0 g1 g2 g3 q0 q1
        refine (BackR_spec HY6.out).mono ?_
        rintro e w7 ⟨ow7, rfl, hbw7, how7⟩
        have hzw7 := hbw7.size
        have How7 := Lib.hid (show BasV (fun x => x ≠ B8 ∧ x ≠ B9) w7 ow7 (backO m) from how7)
        obtain ⟨oaw7, ocw7, otw7, odw7, rfl⟩ := how7.shape
        have Hbw7 := Lib.hid hbw7
        clear how7 hbw7
        have Hx7 := Lib.hid (Hx6.out.at Hbw7.out)
        have R97 := Lib.hid (rowTo R96.out Hbw7.out)
        have Hb7 := Lib.hid (below_step Hbw7.out Hb6.out)
        obtain ⟨f0, f1, f2, f3, g0, g1, g2, g3⟩ := R97.out.four
        have l97 := R97.out.lt
        go_wp2_with fail
        go_meet
        exact ⟨backO m, backE m, [], [], rfl, rfl, Seq.nil _ _ _, Seq.nil _ _ _, Seq.nil _ _ _, Seq.nil _ _ _, HI.out.back, box_other Hx7.out hne' (fun _ h => h.2), box_set R97.out (fun _ h => h.2) How7.out, below_set4 Hb7.out hw9⟩
      case rest =>
        obtain ⟨m', n, C1, C2, rfl, rfl, hC1, hC2, hC3, hC4, hI', hx', hy', hb'⟩ := hcut
        obtain ⟨wd, rfl⟩ : ∃ wd, wd = wc := ⟨_, rfl⟩
        obtain ⟨a1, i1, rfl⟩ := hC1.shape
        obtain ⟨a2, i2, rfl⟩ := hC2.shape
        obtain ⟨a3, i3, rfl⟩ := hC3.shape
        obtain ⟨a4, i4, rfl⟩ := hC4.shape
        have Hx' := Lib.hid hx'
        have Hy' := Lib.hid hy'
        have Hb' := Lib.hid hb'
        have HI' := Lib.hid hI'
        obtain ⟨xa, xb, xc, xd, hrx, hvx⟩ := hx'
        obtain ⟨ya, yb, yc, yd, hry, hvy⟩ := hy'
        have Hrx := Lib.hid hrx
        have Hry := Lib.hid hry
        have Hvx := Lib.hid hvx
        have Hvy := Lib.hid hvy
        have HC1 := Lib.hid hC1
        have HC2 := Lib.hid hC2
        have HC3 := Lib.hid hC3
        have HC4 := Lib.hid hC4
        clear hrx hry hvx hvy hC1 hC2 hC3 hC4 hI' hb' hA
        have Kp : ∀ {w' : World}, Below wd.heap.size wd w' → w'.cell? ⟨B8, 0, none⟩ = some (.slice xa m'.facts.length xb) ∧ w'.cell? ⟨B8, 1, none⟩ = some (.int .i64 m'.ver) ∧ w'.cell? ⟨B8, 2, none⟩ = some (.bool m'.on) ∧ w'.cell? ⟨B8, 3, none⟩ = some (.slice xc m'.todo.length xd) ∧ w'.cell? ⟨B9, 0, none⟩ = some (.slice ya m'.facts.length yb) ∧ w'.cell? ⟨B9, 1, none⟩ = some (.int .i64 m'.ver) ∧ w'.cell? ⟨B9, 2, none⟩ = some (.bool m'.on) ∧ w'.cell? ⟨B9, 3, none⟩ = some (.slice yc m'.todo.length yd) := fun h =>
          have q := (rowTo Hrx.out h).four
          have q' := (rowTo Hry.out h).four
          ⟨q.1, q.2.1, q.2.2.1, q.2.2.2.1, q'.1, q'.2.1, q'.2.2.1, q'.2.2.2.1⟩
        have kx : ∀ {w' : World}, Below wd.heap.size wd w' → BasV (fun x => x ≠ B8 ∧ x ≠ B9) w' (.agg #[.slice xa m'.facts.length xb, .int .i64 m'.ver, .bool m'.on, .slice xc m'.todo.length xd]) m' := fun h => Hvx.out.at h
        have ky : ∀ {w' : World}, Below wd.heap.size wd w' → BasV (fun x => x ≠ B8 ∧ x ≠ B9) w' (.agg #[.slice ya m'.facts.length yb, .int .i64 m'.ver, .bool m'.on, .slice yc m'.todo.length yd]) m' := fun h => Hvy.out.at h
        have k1 : ∀ {w' : World}, Below wd.heap.size wd w' → Seq (seqE cellE) (fun x => x ≠ B8 ∧ x ≠ B9) w' (.slice a1 C1.length i1) C1 := fun h => HC1.out.at h
        have k2 : ∀ {w' : World}, Below wd.heap.size wd w' → Seq (seqE cellE) (fun x => x ≠ B8 ∧ x ≠ B9) w' (.slice a2 C2.length i2) C2 := fun h => HC2.out.at h
        have k3 : ∀ {w' : World}, Below wd.heap.size wd w' → Seq (seqE cellE) (fun x => x ≠ B8 ∧ x ≠ B9) w' (.slice a3 C1.length i3) C1 := fun h => HC3.out.at h
        have k4 : ∀ {w' : World}, Below wd.heap.size wd w' → Seq (seqE cellE) (fun x => x ≠ B8 ∧ x ≠ B9) w' (.slice a4 C2.length i4) C2 := fun h => HC4.out.at h
        have hrow := HI'.out.row
        have p1 : Below wd.heap.size wd wd.drew := Seq.way
        have hdm : decide (m' = m') = true := by simp
        have hd1 : decide (C1 = C1) = true := by simp
        have hd2 : decide (C2 = C2) = true := by simp
        have hdn : decide (nowL m'.facts m'.todo = nowL m'.facts m'.todo) = true := by simp
        go_upto_region 29 with fail
        go_region_held3 (fun w' => w'.cell? ⟨B8, 0, none⟩ = some (.slice xa m'.facts.length xb) ∧ w'.cell? ⟨B8, 1, none⟩ = some (.int .i64 m'.ver) ∧ w'.cell? ⟨B8, 2, none⟩ = some (.bool m'.on) ∧ w'.cell? ⟨B8, 3, none⟩ = some (.slice xc m'.todo.length xd) ∧ w'.cell? ⟨B9, 0, none⟩ = some (.slice ya m'.facts.length yb) ∧ w'.cell? ⟨B9, 1, none⟩ = some (.int .i64 m'.ver) ∧ w'.cell? ⟨B9, 2, none⟩ = some (.bool m'.on) ∧ w'.cell? ⟨B9, 3, none⟩ = some (.slice yc m'.todo.length yd))
          (first | (with_reducible exact Kp p1) | (with_reducible exact Kp HB10) | (with_reducible exact Kp HB9) | (with_reducible exact Kp HB8) | (with_reducible exact Kp HB7) | (with_reducible exact Kp HB6) | (with_reducible exact Kp HB5) | go_keep)
          (first
            | (go_at_call 23; (with_reducible refine (SameB_spec (kx p1) (ky p1)).mono ?_); rintro e w5 ⟨rfl, hb5⟩; (try rw [hdm]); have HB5 := below_step hb5 p1)
            | (go_at_call 24; have hz := hs9; (with_reducible refine (SameAll_spec (hs8.at hb9) hs9).mono ?_); rintro e w10 ⟨rfl, hb10⟩; (try rw [hdn]); have HB10 := below_step (hb10.below w9.heap.size) HB9)
            | (go_at_call 24; have hz := hb6; (with_reducible refine (SameAll_spec (k2 HB6) (k4 HB6)).mono ?_); rintro e w7 ⟨rfl, hb7⟩; (try rw [hd2]); have HB7 := below_step (hb7.below w6.heap.size) HB6)
            | (go_at_call 24; (with_reducible refine (SameAll_spec (k1 HB5) (k3 HB5)).mono ?_); rintro e w6 ⟨rfl, hb6⟩; (try rw [hd1]); have HB6 := below_step (hb6.below w5.heap.size) HB5)
            | (go_at_call 25; (with_reducible refine (NowP_spec (kx HB7) hrow).mono ?_); rintro e w8 ⟨v8, rfl, hb8, hs8⟩; have HB8 := below_step hb8 HB7; obtain ⟨na, nc, rfl⟩ := hs8.shape)
            | (go_at_call 26; (with_reducible refine (NowR_spec (ky HB8) hrow).mono ?_); rintro e w9 ⟨v9, rfl, hb9, hs9⟩; have HB9 := below_step hb9 HB8; obtain ⟨nb, nd, rfl⟩ := hs9.shape))
        go_wp2_with fail
        go_roundw
        case rel => exact ⟨k + 1, hlt, by go_num, m', HI'.out, Hx'.out.at HB10, Hy'.out.at HB10, below_step HB10 Hb'.out⟩
        case measure => simp [intOf]; omega
    · obtain rfl : k = acts.length := by omega
      go_wp2_with fail
      refine (NewP_spec (S := fun _ => True)).mono ?_
      rintro e w5 ⟨v5, rfl, hb5, hs5⟩
      have Hb5 := Lib.hid hb5
      have Hs5 := Lib.hid hs5
      obtain ⟨pa, pb, pc, pd, rfl⟩ := hs5.shape
      clear hb5 hs5
      go_wp2_with fail
      refine (NewR_spec (S := fun _ => True)).mono ?_
      rintro e w6 ⟨v6, rfl, hb6, hs6⟩
      have Hb6 := Lib.hid hb6
      have Hs6 := Lib.hid hs6
      obtain ⟨qa, qb, qc, qd, rfl⟩ := hs6.shape
      clear hb6 hs6
      go_wp2_with fail
      refine (SameB_spec (Hs5.out.at Hb6.out) Hs6.out).mono ?_
      rintro e w7 ⟨rfl, hb7⟩
      have HZ := Lib.hid (below_step hb7 (below_step Hb6.out (below_step Hb5.out Hbr.out)))
      go_wp2_with fail
      go_ret
      exact ⟨ret_bool (by simp), HZ.out⟩
end Go.Proofs.Yteefdmpaclnaiaa
