/-
  Layer 13: the walk of TransCame.
-/
import Derived.Test.YteefdmpaclnaiaaTnT
import Derived.Deep.RegionHeld3
namespace Go.Proofs.Yteefdmpaclnaiaa
open Go Go.RowKit

set_option maxHeartbeats 4000000 in
set_option maxRecDepth 100000 in
theorem came_spec {S T : Nat → Prop} {w : World} {v u : Value} {l : List (List Cell)} {c : List Chg} (hl : Seq (seqE cellE) S w v l) (hc : Seq changeE T w u c) :
    Calls Try.prog 8 #[v, u] w (RetV (.bool true) w) := by
  have Hl := Lib.hid hl
  have Hc := Lib.hid hc
  obtain ⟨la, lc, rfl, -⟩ := hl
  obtain ⟨ca, cc, rfl, -⟩ := hc
  go_enter Try.func8, Try.ntmps8
  go_wp2_with fail
  refine head_spec.mono ?_
  rintro e w1 ⟨rfl, hb1⟩
  have HB1 := Lib.hid hb1
  clear hb1
  go_wp2_with fail
  refine (greatL_spec (Hl.out.at HB1.out) (Hc.out.at HB1.out)).mono ?_
  rintro e w2 ⟨bo, rfl, hb2, hg⟩
  have HB2 := Lib.hid (below_step hb2 HB1.out)
  clear hb2
  cases bo
  rotate_left 1
  · go_wp2_with fail
    go_ret
    exact ⟨rfl, HB2.out⟩
  obtain ⟨hl60, hc60⟩ := hg rfl
  clear hg
  go_wp2_with fail
  refine (MadeB_spec (Hl.out.at HB2.out)).mono ?_
  rintro e w3 ⟨v3, rfl, hb3, hs3⟩
  have HB3 := Lib.hid (below_step hb3 HB2.out)
  obtain ⟨hF1, hF2⟩ := rowF_rowT l
  obtain ⟨F, hFF⟩ : ∃ F, F = rowF l 40 := ⟨_, rfl⟩
  have hs3 : BasV (fun _ => True) w3 v3 ⟨F, 0, false, []⟩ := hFF ▸ hs3.mono (fun _ _ _ => trivial) fun _ _ _ => rfl
  have hmb : madeB l = ⟨F, 0, false, []⟩ := by rw [hFF]; rfl
  have hbg : ∀ c, begunO (madeB l) c = ⟨F, 0, true, begunL c⟩ := fun c => by rw [hFF]; exact begunO_made
  rw [← hFF] at hF1 hF2
  rw [hmb] at hbg
  have HBg := Lib.hid hbg
  have HF1 := Lib.hid hF1
  have Hs3 := Lib.hid hs3
  obtain ⟨fa, fb, fc, fd, rfl⟩ := hs3.shape
  clear hmb hbg hFF hF1 hs3 hb3
  obtain ⟨W6, hW6⟩ : ∃ W, W = w3.alloc (.cells #[.slice fa F.length fb, .int .i64 0, .bool false, .slice fc 0 fd] 25) := ⟨_, rfl⟩
  have hr6 : Row 25 W6 w3.heap.size [.slice fa F.length fb, .int .i64 0, .bool false, .slice fc 0 fd] := by rw [hW6]; exact Row.new w3 [_, _, _, _] _ rfl
  have HS6 := Lib.hid (show Below w3.heap.size w3 W6 by rw [hW6]; exact Seq.way)
  have Q6 := fun {w' : World} (h : Below W6.heap.size W6 w') => Lib.hid ((rowTo hr6 h).four)
  have z6 : w3.heap.size < W6.heap.size := hr6.lt
  have HW6 := Lib.hid hW6
  clear hW6 hr6
  have HW6B := Lib.hid (below_step HS6.out HB3.out)
  go_wp2_with fail
  rw [← HW6.out]
  refine (begun_spec (Hs3.out.at HS6.out) (Hc.out.at HW6B.out) (by simp)).mono ?_
  rintro e w4 ⟨v4, d4, rfl, hb4, hs4, hd4⟩
  rw [HBg.out] at hs4
  have HL := Lib.hid (fun c' (h : c' ∈ begunL c) => begun_facts h)
  have hLl := begunL_len hc60
  obtain ⟨L, hL⟩ : ∃ L, L = begunL c := ⟨_, rfl⟩
  rw [← hL] at hs4 hd4 HL hLl
  have HB4 := Lib.hid hb4
  have Hs4 := Lib.hid (show BasV (fun _ => True) w4 v4 ⟨F, 0, true, L⟩ from hs4.mono (fun _ _ _ => trivial) fun _ _ _ => rfl)
  have Hd4 := Lib.hid (show Seq changeE (fun _ => True) w4 d4 L from hd4.mono (fun _ _ _ => trivial) fun _ _ _ => rfl)
  obtain ⟨ga, gb, gc, gd, rfl⟩ := hs4.shape
  obtain ⟨da, db, rfl⟩ := hd4.shape
  have HLl := Lib.hid hLl
  have hcl : c.length = L.length := hLl.symm
  have HC4 := Lib.hid HW6B
  clear hL hs4 hd4 hb4 hLl
  rw [hcl] at hc60
  have Hcl := Lib.hid hcl
  obtain ⟨W7, hW7⟩ : ∃ W, W = w4.alloc (.cells #[.slice ga F.length gb, .int .i64 0, .bool true, .slice gc L.length gd] 25) := ⟨_, rfl⟩
  have hr7 : Row 25 W7 w4.heap.size [.slice ga F.length gb, .int .i64 0, .bool true, .slice gc L.length gd] := by rw [hW7]; exact Row.new w4 [_, _, _, _] _ rfl
  have HS7 := Lib.hid (show Below w4.heap.size w4 W7 by rw [hW7]; exact Seq.way)
  have Q7 := fun {w' : World} (h : Below W7.heap.size W7 w') => Lib.hid ((rowTo hr7 h).four)
  have z7 : w4.heap.size < W7.heap.size := hr7.lt
  have HW7 := Lib.hid hW7
  clear hW7 hr7
  have H67 := Lib.hid (below_step HS7.out HB4.out)
  have H37 := Lib.hid (below_step H67.out HS6.out)
  have H7 := Lib.hid (below_step H67.out HW6B.out)
  rw [hcl] at *
  clear hcl
  obtain ⟨d0, d1, d2, d3, -, -, -, -⟩ := (Q7 (Below.refl _ _)).out
  go_wp2_with fail
  rw [← HW7.out]
  refine (NowP_spec (Hs4.out.at HS7.out) HF1.out).mono ?_
  rintro e w5 ⟨v5, rfl, hb5, hs5⟩
  have H75 := Lib.hid hb5
  have Hs5 := Lib.hid (show Seq (seqE cellE) (fun _ => True) w5 v5 (nowL F L) from hs5.mono (fun _ _ _ => trivial) fun _ _ _ => rfl)
  obtain ⟨na, nb, rfl⟩ := hs5.shape
  have hl5 := nowL_len HF1.out HL.out (by omega)
  clear hs5 hb5 d0 d1 d2 d3
  obtain ⟨d0, d1, d2, d3, -, -, -, -⟩ := (Q7 H75.out).out
  obtain ⟨m, hm⟩ : ∃ m, m = (nowL F L).length := ⟨_, rfl⟩
  have Hm := Lib.hid hm
  rw [← hm] at hl5 Hs5 ⊢
  clear hm
  go_wp2_with fail
  refine (CommitP_spec (Hs4.out.at (below_step H75.out HS7.out)) HF1.out (show (0 : Int) ≤ 0 by omega) (show (0 : Int) ≤ _ by omega)).mono ?_
  rintro e w8 ⟨ow8, xw8, yw8, rfl, hbw8, how8, hxw8, hyw8⟩
  have hcom := com_of (n := 0) HF1.out HL.out (by omega)
  rw [hcom.1] at how8
  rw [hcom.2.1]
  rw [hcom.2.2.1] at hxw8
  rw [hcom.2.2.2] at hyw8
  have hN1 := nowL_rowT (todo := L) HF1.out
  have hN2 := nowL_len HF1.out HL.out (by omega)
  obtain ⟨N, hN⟩ : ∃ N, N = nowL F L := ⟨_, rfl⟩
  rw [← hN] at how8 hxw8 hyw8 hN1 hN2
  have HN1 := Lib.hid hN1
  have HN := Lib.hid hN
  have How8 := Lib.hid (show BasV (fun _ => True) w8 ow8 ⟨N, 0 + 1, false, []⟩ from how8.mono (fun _ _ _ => trivial) fun _ _ _ => rfl)
  have Hxw8 := Lib.hid (show Seq (seqE cellE) (fun _ => True) w8 xw8 (lessT N F) from hxw8.mono (fun _ _ _ => trivial) fun _ _ _ => rfl)
  have Hyw8 := Lib.hid (show Seq (seqE cellE) (fun _ => True) w8 yw8 (lessT F N) from hyw8.mono (fun _ _ _ => trivial) fun _ _ _ => rfl)
  have Hbw8 := Lib.hid hbw8
  obtain ⟨oa, ob, oc, od, rfl⟩ := how8.shape
  obtain ⟨xa, xb, rfl⟩ := hxw8.shape
  obtain ⟨ya, yb, rfl⟩ := hyw8.shape
  clear hbw8 how8 hxw8 hyw8 hcom hN hN1
  have H78 := Lib.hid (below_step Hbw8.out H75.out)
  rw [← HN.out] at Hm Hs5
  have hmN : m = N.length := Hm.out
  subst hmN
  obtain ⟨X, hX⟩ : ∃ X, X = lessT N F := ⟨_, rfl⟩
  obtain ⟨Y, hY⟩ : ∃ Y, Y = lessT F N := ⟨_, rfl⟩
  have HX := Lib.hid hX
  have HY := Lib.hid hY
  rw [← hX] at Hxw8 ⊢
  rw [← hY] at Hyw8 ⊢
  have hlen := less_len HF1.out.sort HN1.out.sort
  rw [← hX, ← hY] at hlen
  have Hlen := Lib.hid hlen
  have hXx := Lib.hid (show ∀ x ∈ X, factT x = true ∧ decide (x ∈ F) = false ∧ decide (x ∈ N) = true from fun x hx => by
    rw [hX, mem_lessT] at hx
    exact ⟨HN1.out.fact x hx.1, decide_eq_false hx.2, decide_eq_true hx.1⟩)
  have hYy := Lib.hid (show ∀ x ∈ Y, factT x = true ∧ decide (x ∈ F) = true ∧ decide (x ∈ N) = false from fun x hx => by
    rw [hY, mem_lessT] at hx
    exact ⟨HF1.out.fact x hx.1, decide_eq_true hx.1, decide_eq_false hx.2⟩)
  clear hlen hX hY
  obtain ⟨W10, hW10⟩ : ∃ W, W = w8.alloc (.cells #[.slice oa N.length ob, .int .i64 1, .bool false, .slice oc 0 od] 25) := ⟨_, rfl⟩
  have hr10 : Row 25 W10 w8.heap.size [.slice oa N.length ob, .int .i64 1, .bool false, .slice oc 0 od] := by rw [hW10]; exact Row.new w8 [_, _, _, _] _ rfl
  have HS10 := Lib.hid (show Below w8.heap.size w8 W10 by rw [hW10]; exact Seq.way)
  have Q10 := fun {w' : World} (h : Below W10.heap.size W10 w') => Lib.hid ((rowTo hr10 h).four)
  have z10 : w8.heap.size < W10.heap.size := hr10.lt
  have HW10 := Lib.hid hW10
  clear hW10 hr10
  have H710 := Lib.hid (below_step HS10.out H78.out)
  have H610 := Lib.hid (below_step H710.out H67.out)
  have H310 := Lib.hid (below_step H610.out HS6.out)
  have HA10 := Lib.hid (below_step H610.out HW6B.out)
  have l68 : w3.heap.size < w8.heap.size := by have := H78.out.size; have := H67.out.size; omega
  clear d0 d1 d2 d3
  obtain ⟨c0, c1, c2, c3, -, -, -, -⟩ := (Q6 H610.out).out
  obtain ⟨d0, d1, d2, d3, -, -, -, -⟩ := (Q10 (Below.refl _ _)).out
  have hwr : IntKind.i64.wrap (0 + 1) = 1 := by decide
  go_wp2_with fail
  rw [← HW10.out]
  refine (SameAll_spec (How8.out.seqs.1.at HS10.out) (Hs5.out.at (below_step HS10.out Hbw8.out))).mono ?_
  rintro e w9 ⟨rfl, hq9⟩
  have H109 := Lib.hid (hq9.below W10.heap.size)
  rw [show decide ((⟨N, 0 + 1, false, []⟩ : Bas).facts = N) = true by simp]
  clear hq9 c0 c1 c2 c3 d0 d1 d2 d3
  obtain ⟨c0, c1, c2, c3, -, -, -, -⟩ := (Q6 (below_step H109.out H610.out)).out
  obtain ⟨d0, d1, d2, d3, -, -, -, -⟩ := (Q10 H109.out).out
  go_wp2_with fail
  have HNs := fun {w' : World} (h : Below W10.heap.size W10 w') => Lib.hid (How8.out.seqs.1.at (below_step h HS10.out))
  have HFs := fun {w' : World} (h : Below W10.heap.size W10 w') => Lib.hid (Hs3.out.seqs.1.at (below_step h H310.out))
  have HXs := fun {w' : World} (h : Below W10.heap.size W10 w') => Lib.hid (Hxw8.out.at (below_step h HS10.out))
  have HYs := fun {w' : World} (h : Below W10.heap.size W10 w') => Lib.hid (Hyw8.out.at (below_step h HS10.out))
  dsimp only at HNs HFs
  go_loopw [14] (fun i wr => ∃ k : Nat, k ≤ X.length ∧ i = .int .i64 k ∧ Below W10.heap.size W10 wr) (fun i _ => X.length - (intOf i).toNat)
  case atStart => exact ⟨0, Nat.zero_le _, rfl, H109.out⟩
  case round =>
    obtain ⟨k, hk, rfl, hbr⟩ := hrel
    by_cases hlt : k < X.length
    · obtain ⟨_, _, ee, -, -, hvl, -, h5⟩ := (HXs hbr).out
      simp only [Value.slice.injEq, true_and] at ee
      obtain ⟨rfl, rfl⟩ := ee
      obtain ⟨b1, o1, p1, n1, rfl, -, hlb, e0, hX1⟩ := h5.seq hlt
      obtain ⟨hfx, hxF, hxN⟩ := hXx.out _ (List.getElem_mem hlt)
      obtain ⟨x, hx⟩ : ∃ x, x = X[k] := ⟨_, rfl⟩
      rw [← hx] at e0 hX1 hfx hxF hxN
      clear hx h5
      have hkl : (k : Int) < (X.length : Int) := by omega
      have hk0 : (0 : Int) ≤ (k : Int) := by omega
      have q1 : Below wr.heap.size wr wr.drew := Seq.way
      have kX : ∀ {w' : World}, Below wr.heap.size wr w' → Seq cellE (fun _ => True) w' (.slice p1 x.length n1) x := fun h => hX1.at h
      have kN : ∀ {w' : World}, Below wr.heap.size wr w' → Seq (seqE cellE) (fun _ => True) w' (.slice oa N.length ob) N := fun h => (HNs (below_step h hbr)).out
      have kF : ∀ {w' : World}, Below wr.heap.size wr w' → Seq (seqE cellE) (fun _ => True) w' (.slice fa F.length fb) F := fun h => (HFs (below_step h hbr)).out
      have Kp : ∀ {w' : World}, Below wr.heap.size wr w' → w'.cell? ⟨w3.heap.size, 0, none⟩ = some (.slice fa F.length fb) ∧ w'.cell? ⟨b1, o1 + k, none⟩ = some (.slice p1 x.length n1) ∧ w'.cell? ⟨w8.heap.size, 0, none⟩ = some (.slice oa N.length ob) := fun h =>
        ⟨(Q6 (below_step (below_step h hbr) H610.out)).out.1, (h.cell hlb).trans e0, (Q10 (below_step h hbr)).out.1⟩
      have sN := HN1.out.sort
      have sF := HF1.out.sort
      have lN : N.length ≤ 1000000 := by omega
      have lF : F.length ≤ 1000000 := by omega
      clear e0
      go_wp2_with fail
      go_region_held3 (fun w' => w'.cell? ⟨w3.heap.size, 0, none⟩ = some (.slice fa F.length fb) ∧ w'.cell? ⟨b1, o1 + k, none⟩ = some (.slice p1 x.length n1) ∧ w'.cell? ⟨w8.heap.size, 0, none⟩ = some (.slice oa N.length ob))
        (first | (with_reducible exact Kp q1) | (with_reducible exact Kp HB6) | (with_reducible exact Kp HB5) | go_keep)
        (first
          | (go_at_call 34; have hb5' := hb5; (with_reducible refine (HasP_spec (kN HB5) (kX HB5) sN lN).mono ?_); rintro e w6 ⟨rfl, hb6⟩; rw [hfx, hxN]; have HB6 := below_step hb6 HB5)
          | (go_at_call 34; (with_reducible refine (HasP_spec (kF q1) (kX q1) sF lF).mono ?_); rintro e w5 ⟨rfl, hb5⟩; rw [hfx, hxF]; have HB5 := below_step hb5 q1))
      go_wp2_with fail
      go_roundw
      case rel => exact ⟨k + 1, hlt, by go_num, below_step HB6 hbr⟩
      case measure => simp [intOf]; omega
    · obtain rfl : k = X.length := by omega
      go_wp2_with fail
      go_loopw [15] (fun i wr => ∃ k : Nat, k ≤ Y.length ∧ i = .int .i64 k ∧ Below W10.heap.size W10 wr) (fun i _ => Y.length - (intOf i).toNat)
      case atStart => exact ⟨0, Nat.zero_le _, rfl, hbr⟩
      case round =>
        clear hbr
        obtain ⟨k, hk, rfl, hbr⟩ := hrel
        by_cases hlt : k < Y.length
        · obtain ⟨_, _, ee, -, -, hvl, -, h5⟩ := (HYs hbr).out
          simp only [Value.slice.injEq, true_and] at ee
          obtain ⟨rfl, rfl⟩ := ee
          obtain ⟨b1, o1, p1, n1, rfl, -, hlb, e0, hX1⟩ := h5.seq hlt
          obtain ⟨hfx, hxF, hxN⟩ := hYy.out _ (List.getElem_mem hlt)
          obtain ⟨x, hx⟩ : ∃ x, x = Y[k] := ⟨_, rfl⟩
          rw [← hx] at e0 hX1 hfx hxF hxN
          clear hx h5
          have hkl : (k : Int) < (Y.length : Int) := by omega
          have hk0 : (0 : Int) ≤ (k : Int) := by omega
          have q1 : Below wr.heap.size wr wr.drew := Seq.way
          have kX : ∀ {w' : World}, Below wr.heap.size wr w' → Seq cellE (fun _ => True) w' (.slice p1 x.length n1) x := fun h => hX1.at h
          have kN : ∀ {w' : World}, Below wr.heap.size wr w' → Seq (seqE cellE) (fun _ => True) w' (.slice oa N.length ob) N := fun h => (HNs (below_step h hbr)).out
          have kF : ∀ {w' : World}, Below wr.heap.size wr w' → Seq (seqE cellE) (fun _ => True) w' (.slice fa F.length fb) F := fun h => (HFs (below_step h hbr)).out
          have Kp : ∀ {w' : World}, Below wr.heap.size wr w' → w'.cell? ⟨w3.heap.size, 0, none⟩ = some (.slice fa F.length fb) ∧ w'.cell? ⟨b1, o1 + k, none⟩ = some (.slice p1 x.length n1) ∧ w'.cell? ⟨w8.heap.size, 0, none⟩ = some (.slice oa N.length ob) := fun h =>
            ⟨(Q6 (below_step (below_step h hbr) H610.out)).out.1, (h.cell hlb).trans e0, (Q10 (below_step h hbr)).out.1⟩
          have sN := HN1.out.sort
          have sF := HF1.out.sort
          have lN : N.length ≤ 1000000 := by omega
          have lF : F.length ≤ 1000000 := by omega
          clear e0
          go_wp2_with fail
          go_region_held3 (fun w' => w'.cell? ⟨w3.heap.size, 0, none⟩ = some (.slice fa F.length fb) ∧ w'.cell? ⟨b1, o1 + k, none⟩ = some (.slice p1 x.length n1) ∧ w'.cell? ⟨w8.heap.size, 0, none⟩ = some (.slice oa N.length ob))
            (first | (with_reducible exact Kp q1) | (with_reducible exact Kp HB6) | (with_reducible exact Kp HB5) | go_keep)
            (first
              | (go_at_call 34; have hb5' := hb5; (with_reducible refine (HasP_spec (kN HB5) (kX HB5) sN lN).mono ?_); rintro e w6 ⟨rfl, hb6⟩; rw [hfx, hxN]; have HB6 := below_step hb6 HB5)
              | (go_at_call 34; (with_reducible refine (HasP_spec (kF q1) (kX q1) sF lF).mono ?_); rintro e w5 ⟨rfl, hb5⟩; rw [hfx, hxF]; have HB5 := below_step hb5 q1))
          go_wp2_with fail
          go_roundw
          case rel => exact ⟨k + 1, hlt, by go_num, below_step HB6 hbr⟩
          case measure => simp [intOf]; omega
        · obtain rfl : k = Y.length := by omega
          have hbz := Lib.hid hbr
          have HZ := Lib.hid (below_step hbz.out HA10.out)
          obtain ⟨c0, c1, c2, c3, -, -, -, -⟩ := (Q6 (below_step hbz.out H610.out)).out
          obtain ⟨d0, d1, d2, d3, -, -, -, -⟩ := (Q10 hbz.out).out
          have hX60 : X.length ≤ 1000 := by have := Hlen.out; have h := Nat.le_trans (fltL_len (fun t => !decide (t ∈ F)) N) (Nat.le_refl _); have e : X.length ≤ N.length := by rw [HX.out]; exact h
                                            omega
          have hY60 : Y.length ≤ 1000 := by have h := fltL_len (fun t => !decide (t ∈ N)) F; have e : Y.length ≤ F.length := by rw [HY.out]; exact h
                                            omega
          have hw1 : IntKind.i64.wrap ((F.length : Int) + X.length) = (F.length : Int) + X.length := by rw [IntKind.wrap_i64]; omega
          have hw2 : IntKind.i64.wrap ((F.length : Int) + X.length - Y.length) = (F.length : Int) + X.length - Y.length := by rw [IntKind.wrap_i64]; omega
          go_wp2_with fail
          go_ret
          exact ⟨ret_bool (by have := Hlen.out; simp; omega), HZ.out⟩
end Go.Proofs.Yteefdmpaclnaiaa
