/-
  Layer 13: the walk of TransStays.
-/
import Derived.Test.YteefdmpaclnaiaaTnR
import Derived.Test.YteefdmpaclnaiaaTnS
namespace Go.Proofs.Yteefdmpaclnaiaa
open Go Go.RowKit

theorem begunO_made {l : List (List Cell)} {c : List Chg} : begunO (madeB l) c = ⟨rowF l 40, 0, true, begunL c⟩ := by
  unfold begunO madeB; simp
theorem begunL_eq {c : List Chg} (h : c.length ≤ 60) : begunL c = c.map fun c => ⟨c.add, factM c.t⟩ := by unfold begunL; rw [List.take_of_length_le h]
theorem begunL_take {c : List Chg} {k : Nat} (h : c.length ≤ 60) : begunL (c.take k) = (begunL c).take k := by
  rw [begunL_eq h, begunL_eq (by rw [List.length_take]; omega), List.map_take]
theorem begunL_drop {c : List Chg} {k : Nat} (h : c.length ≤ 60) : begunL (c.drop k) = (begunL c).drop k := by
  rw [begunL_eq h, begunL_eq (by rw [List.length_drop]; omega), List.map_drop]
theorem com_of {F : List (List Cell)} {L : List Chg} {n : Int} (hF : RowT F) (hL : ∀ c ∈ L, factT c.t = true) (hl : F.length + L.length ≤ 512) :
    commitO ⟨F, n, true, L⟩ = ⟨nowL F L, n + 1, false, []⟩ ∧ commitE ⟨F, n, true, L⟩ = 0 ∧ cameO ⟨F, n, true, L⟩ = lessT (nowL F L) F ∧ wentO ⟨F, n, true, L⟩ = lessT F (nowL F L) := by
  have h := fullL_no hF hL hl
  unfold commitO commitE cameO wentO
  simp [h]
theorem BasV.seqs {S : Nat → Prop} {w : World} {fa ta : Option Addr} {n m fc tc : Nat} {x y : Value} {b : Bas} (h : BasV S w (.agg #[.slice fa n fc, x, y, .slice ta m tc]) b) :
    Seq (seqE cellE) S w (.slice fa n fc) b.facts ∧ Seq changeE S w (.slice ta m tc) b.todo := by
  obtain ⟨_, _, _, _, e, -, h1, h2⟩ := h
  simp only [Value.agg.injEq, Array.mk.injEq, List.cons.injEq, Value.slice.injEq, and_true] at e
  obtain ⟨⟨rfl, rfl, rfl⟩, -, -, rfl, rfl, rfl⟩ := e
  exact ⟨h1, h2⟩
theorem rightB_of {F : List (List Cell)} {n : Int} {o : Bool} {L : List Chg} (hF : RowT F) (hl : F.length ≤ 512) (h0 : 0 ≤ n) (h1 : n ≤ 1000) (ho : o = true ∨ L = []) (hL : ∀ c ∈ L, factT c.t = true) : rightB ⟨F, n, o, L⟩ = true := by
  unfold rightB
  rw [rowR_of hF hl, decide_eq_true h0, decide_eq_true (show n ≤ 1099511627776 by omega), List.all_eq_true.2 hL]
  rcases ho with rfl | rfl <;> simp

set_option maxHeartbeats 4000000 in
set_option maxRecDepth 100000 in
theorem stays_spec {S T : Nat → Prop} {w : World} {v u : Value} {l : List (List Cell)} {c : List Chg} (hl : Seq (seqE cellE) S w v l) (hc : Seq changeE T w u c) :
    Calls Try.prog 4 #[v, u] w (RetV (.bool true) w) := by
  have Hl := Lib.hid hl
  have Hc := Lib.hid hc
  obtain ⟨la, lc, rfl, -⟩ := hl
  obtain ⟨ca, cc, rfl, -⟩ := hc
  go_enter Try.func4, Try.ntmps4
  go_wp2_with fail
  refine head_spec.mono ?_
  rintro e w1 ⟨rfl, hb1⟩
  have HB1 := Lib.hid hb1
  clear hb1
  go_wp2_with fail
  refine (greatL_spec (Hl.out.at HB1.out) (Hc.out.at HB1.out)).mono ?_
  rintro e w2 ⟨bo, rfl, hb2, hg⟩
  have HB2 := Lib.hid (below_step hb2 HB1.out)
  clear hb2
  cases bo
  rotate_left 1
  · go_wp2_with fail
    go_ret
    exact ⟨rfl, HB2.out⟩
  obtain ⟨hl60, hc60⟩ := hg rfl
  clear hg
  go_wp2_with fail
  refine (MadeB_spec (Hl.out.at HB2.out)).mono ?_
  rintro e w3 ⟨v3, rfl, hb3, hs3⟩
  have HB3 := Lib.hid (below_step hb3 HB2.out)
  obtain ⟨hF1, hF2⟩ := rowF_rowT l
  obtain ⟨F, hFF⟩ : ∃ F, F = rowF l 40 := ⟨_, rfl⟩
  have hs3 : BasV (fun _ => True) w3 v3 ⟨F, 0, false, []⟩ := hFF ▸ hs3.mono (fun _ _ _ => trivial) fun _ _ _ => rfl
  have hmb : madeB l = ⟨F, 0, false, []⟩ := by rw [hFF]; rfl
  have hbg : ∀ c, begunO (madeB l) c = ⟨F, 0, true, begunL c⟩ := fun c => by rw [hFF]; exact begunO_made
  rw [← hFF] at hF1 hF2
  rw [hmb] at hbg
  have HBg := Lib.hid hbg
  have HF1 := Lib.hid hF1
  have Hs3 := Lib.hid hs3
  obtain ⟨fa, fb, fc, fd, rfl⟩ := hs3.shape
  clear hmb hbg hFF hF1 hs3 hb3
  obtain ⟨W6, hW6⟩ : ∃ W, W = w3.alloc (.cells #[.slice fa F.length fb, .int .i64 0, .bool false, .slice fc 0 fd] 25) := ⟨_, rfl⟩
  have hr6 : Row 25 W6 w3.heap.size [.slice fa F.length fb, .int .i64 0, .bool false, .slice fc 0 fd] := by rw [hW6]; exact Row.new w3 [_, _, _, _] _ rfl
  have HS6 := Lib.hid (show Below w3.heap.size w3 W6 by rw [hW6]; exact Seq.way)
  have Q6 := fun {w' : World} (h : Below W6.heap.size W6 w') => Lib.hid ((rowTo hr6 h).four)
  have z6 : w3.heap.size < W6.heap.size := hr6.lt
  have HW6 := Lib.hid hW6
  clear hW6 hr6
  have HW6B := Lib.hid (below_step HS6.out HB3.out)
  go_wp2_with fail
  rw [← HW6.out]
  refine (begun_spec (Hs3.out.at HS6.out) (Hc.out.at HW6B.out) (by simp)).mono ?_
  rintro e w4 ⟨v4, d4, rfl, hb4, hs4, hd4⟩
  rw [HBg.out] at hs4
  have HL := Lib.hid (fun c' (h : c' ∈ begunL c) => begun_facts h)
  have hLl := begunL_len hc60
  obtain ⟨L, hL⟩ : ∃ L, L = begunL c := ⟨_, rfl⟩
  rw [← hL] at hs4 hd4 HL hLl
  have HB4 := Lib.hid hb4
  have Hs4 := Lib.hid (show BasV (fun _ => True) w4 v4 ⟨F, 0, true, L⟩ from hs4.mono (fun _ _ _ => trivial) fun _ _ _ => rfl)
  obtain ⟨ga, gb, gc, gd, rfl⟩ := hs4.shape
  obtain ⟨da, db, rfl⟩ := hd4.shape
  have HLl := Lib.hid hLl
  have hcl : c.length = L.length := hLl.symm
  have HC4 := Lib.hid HW6B
  clear hL hs4 hd4 hb4 hLl
  rw [hcl] at hc60
  have Hcl := Lib.hid hcl
  obtain ⟨W7, hW7⟩ : ∃ W, W = w4.alloc (.cells #[.slice ga F.length gb, .int .i64 0, .bool true, .slice gc L.length gd] 25) := ⟨_, rfl⟩
  have hr7 : Row 25 W7 w4.heap.size [.slice ga F.length gb, .int .i64 0, .bool true, .slice gc L.length gd] := by rw [hW7]; exact Row.new w4 [_, _, _, _] _ rfl
  have HS7 := Lib.hid (show Below w4.heap.size w4 W7 by rw [hW7]; exact Seq.way)
  have Q7 := fun {w' : World} (h : Below W7.heap.size W7 w') => Lib.hid ((rowTo hr7 h).four)
  have z7 : w4.heap.size < W7.heap.size := hr7.lt
  have HW7 := Lib.hid hW7
  clear hW7 hr7
  have H67 := Lib.hid (below_step HS7.out HB4.out)
  have H37 := Lib.hid (below_step H67.out HS6.out)
  have H7 := Lib.hid (below_step H67.out HW6B.out)
  obtain ⟨c0, c1, c2, c3, -, -, -, -⟩ := (Q6 H67.out).out
  obtain ⟨d0, d1, d2, d3, -, -, -, -⟩ := (Q7 (Below.refl _ _)).out
  rw [hcl] at *
  clear hcl
  go_wp2_with fail
  rw [← HW7.out]
  refine (RightP13_spec (Hs4.out.at HS7.out)).mono ?_
  rintro e w5 ⟨rfl, hb5⟩
  rw [rightB_of HF1.out (by omega) (by omega) (by omega) (.inl rfl) HL.out]
  have H75 := Lib.hid hb5
  clear hb5 c0 c1 c2 c3 d0 d1 d2 d3
  obtain ⟨c0, c1, c2, c3, -, -, -, -⟩ := (Q6 (below_step H75.out H67.out)).out
  obtain ⟨d0, d1, d2, d3, -, -, -, -⟩ := (Q7 H75.out).out
  go_wp2_with fail
  refine (SameAll_spec (Hs4.out.seqs.1.at (below_step H75.out HS7.out)) (Hs3.out.seqs.1.at (below_step H75.out H37.out))).mono ?_
  rintro e w6 ⟨rfl, hq6⟩
  have H76 := Lib.hid (below_step (hq6.below w5.heap.size) H75.out)
  clear hq6 c0 c1 c2 c3 d0 d1 d2 d3
  obtain ⟨c0, c1, c2, c3, -, -, -, -⟩ := (Q6 (below_step H76.out H67.out)).out
  obtain ⟨d0, d1, d2, d3, -, -, -, -⟩ := (Q7 H76.out).out
  go_wp2_with fail
  refine (CommitP_spec (Hs4.out.at (below_step H76.out HS7.out)) HF1.out (show (0 : Int) ≤ 0 by omega) (show (0 : Int) ≤ _ by omega)).mono ?_
  rintro e w8 ⟨o8, x8, y8, rfl, hb8, ho8, hx8, hy8⟩
  have hcom := com_of (n := 0) HF1.out HL.out (by omega)
  rw [hcom.1] at ho8
  rw [hcom.2.1]
  rw [hcom.2.2.1] at hx8
  rw [hcom.2.2.2] at hy8
  have hN1 := nowL_rowT (todo := L) HF1.out
  have hN2 := nowL_len HF1.out HL.out (by omega)
  obtain ⟨N, hN⟩ : ∃ N, N = nowL F L := ⟨_, rfl⟩
  rw [← hN] at ho8 hx8 hy8 hN1 hN2
  have HN1 := Lib.hid hN1
  have Ho8 := Lib.hid (show BasV (fun _ => True) w8 o8 ⟨N, 1, false, []⟩ from ho8.mono (fun _ _ _ => trivial) fun _ _ _ => rfl)
  have H78 := Lib.hid (below_step hb8 H76.out)
  obtain ⟨oa, ob, oc, od, rfl⟩ := ho8.shape
  obtain ⟨xa, xb, rfl⟩ := hx8.shape
  obtain ⟨ya, yb, rfl⟩ := hy8.shape
  clear hb8 ho8 hx8 hy8 hcom hN hN1 c0 c1 c2 c3 d0 d1 d2 d3
  obtain ⟨W9, hW9⟩ : ∃ W, W = w8.alloc (.cells #[.slice oa N.length ob, .int .i64 1, .bool false, .slice oc 0 od] 25) := ⟨_, rfl⟩
  have hr9 : Row 25 W9 w8.heap.size [.slice oa N.length ob, .int .i64 1, .bool false, .slice oc 0 od] := by rw [hW9]; exact Row.new w8 [_, _, _, _] _ rfl
  have HS9 := Lib.hid (show Below w8.heap.size w8 W9 by rw [hW9]; exact Seq.way)
  have Q9 := fun {w' : World} (h : Below W9.heap.size W9 w') => Lib.hid ((rowTo hr9 h).four)
  have z9 : w8.heap.size < W9.heap.size := hr9.lt
  have HW9 := Lib.hid hW9
  clear hW9 hr9
  have H79 := Lib.hid (below_step HS9.out H78.out)
  obtain ⟨d0, d1, d2, d3, -, -, -, -⟩ := (Q7 H78.out).out
  have l78 : w4.heap.size < w8.heap.size := by have := H78.out.size; omega
  go_wp2_with fail
  rw [← HW9.out]
  refine (BackP_spec (Hs4.out.at (below_step H79.out HS7.out))).mono ?_
  rintro e w10 ⟨o10, rfl, hb10, ho10⟩
  rw [show backE ⟨F, 0, true, L⟩ = 0 from rfl]
  have ho10 : BasV (fun _ => True) w10 o10 ⟨F, 0, false, []⟩ := ho10
  have Ho10 := Lib.hid ho10
  obtain ⟨pa, pb, pc, pd, rfl⟩ := ho10.shape
  have H910 := Lib.hid hb10
  clear hb10 ho10 d0 d1 d2 d3
  obtain ⟨W13, hW13⟩ : ∃ W, W = w10.alloc (.cells #[.slice pa F.length pb, .int .i64 0, .bool false, .slice pc 0 pd] 25) := ⟨_, rfl⟩
  have hr13 : Row 25 W13 w10.heap.size [.slice pa F.length pb, .int .i64 0, .bool false, .slice pc 0 pd] := by rw [hW13]; exact Row.new w10 [_, _, _, _] _ rfl
  have HS13 := Lib.hid (show Below w10.heap.size w10 W13 by rw [hW13]; exact Seq.way)
  have Q13 := fun {w' : World} (h : Below W13.heap.size W13 w') => Lib.hid ((rowTo hr13 h).four)
  have z13 : w10.heap.size < W13.heap.size := hr13.lt
  have HW13 := Lib.hid hW13
  clear hW13 hr13
  have H913 := Lib.hid (below_step HS13.out H910.out)
  have H713 := Lib.hid (below_step H913.out H79.out)
  have H613 := Lib.hid (below_step H713.out H67.out)
  obtain ⟨d0, d1, d2, d3, -, -, -, -⟩ := (Q9 H910.out).out
  have l910 : w8.heap.size < w10.heap.size := by have := H910.out.size; omega
  go_wp2_with fail
  rw [← HW13.out]
  refine (RightP13_spec (Ho8.out.at (below_step H913.out HS9.out))).mono ?_
  rintro e w11 ⟨rfl, hb11⟩
  rw [rightB_of HN1.out (by omega) (by omega) (by omega) (.inr rfl) (by simp)]
  have H1311 := Lib.hid hb11
  clear hb11 d0 d1 d2 d3
  obtain ⟨d0, d1, d2, d3, -, -, -, -⟩ := (Q13 H1311.out).out
  go_wp2_with fail
  refine (RightP13_spec (Ho10.out.at (below_step H1311.out HS13.out))).mono ?_
  rintro e w12 ⟨rfl, hb12⟩
  rw [rightB_of HF1.out (by omega) (by omega) (by omega) (.inr rfl) (by simp)]
  have H1312 := Lib.hid (below_step hb12 H1311.out)
  clear hb12 d0 d1 d2 d3
  obtain ⟨d0, d1, d2, d3, -, -, -, -⟩ := (Q13 H1312.out).out
  obtain ⟨c0, c1, c2, c3, -, -, -, -⟩ := (Q6 (below_step H1312.out H613.out)).out
  go_wp2_with fail
  refine (SameB_spec (Ho10.out.at (below_step H1312.out HS13.out)) (Hs3.out.at (below_step (below_step H1312.out H613.out) HS6.out))).mono ?_
  rintro e w13 ⟨rfl, hb13⟩
  have HZ := Lib.hid (below_step (below_step (below_step hb13 H1312.out) H613.out) HW6B.out)
  clear d0 d1 d2 d3 c0 c1 c2 c3
  go_wp2_with fail
  go_ret
  exact ⟨ret_bool (by simp), HZ.out⟩
end Go.Proofs.Yteefdmpaclnaiaa
