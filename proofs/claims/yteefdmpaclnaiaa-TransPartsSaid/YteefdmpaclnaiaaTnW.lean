/-
  Layer 13: the walk of TransParts.
-/
import Derived.Test.YteefdmpaclnaiaaTuA
import Derived.Deep.RegionHeld3
import Derived.Deep.Cut
import Derived.Deep.CutRange
import Derived.Deep.DeepCutAuto
import Derived.Outline
namespace Go.Proofs.Yteefdmpaclnaiaa
open Go Go.RowKit

set_option maxHeartbeats 8000000 in
set_option maxRecDepth 100000 in
theorem parts_spec {S T : Nat → Prop} {w : World} {v u : Value} {l : List (List Cell)} {c : List Chg} {n : Nat} (hl : Seq (seqE cellE) S w v l) (hc : Seq changeE T w u c) (hn : n < 256) :
    Calls Try.prog 6 #[v, u, .int .u8 n] w (RetV (.bool true) w) := by
  have Hl := Lib.hid hl
  have Hc := Lib.hid hc
  obtain ⟨la, lc, rfl, -⟩ := hl
  obtain ⟨ca, cc, rfl, -⟩ := hc
  go_enter Try.func6, Try.ntmps6
  go_wp2_with fail
  refine head_spec.mono ?_
  rintro e w1 ⟨rfl, hb1⟩
  have HB1 := Lib.hid hb1
  clear hb1
  go_wp2_with fail
  refine (greatL_spec (Hl.out.at HB1.out) (Hc.out.at HB1.out)).mono ?_
  rintro e w2 ⟨bo, rfl, hb2, hg⟩
  have HB2 := Lib.hid (below_step hb2 HB1.out)
  clear hb2
  cases bo
  rotate_left 1
  · go_wp2_with fail
    go_ret
    exact ⟨rfl, HB2.out⟩
  obtain ⟨hl60, hc60⟩ := hg rfl
  clear hg
  obtain ⟨k, hkk⟩ : ∃ k : Nat, k = n % (c.length + 1) := ⟨_, rfl⟩
  have hkl : k ≤ c.length := by have := Nat.mod_lt n (show 0 < c.length + 1 by omega); omega
  have hk1 : (n : Int) % ((c.length : Int) + 1) = (k : Int) := by rw [hkk]; simp
  have Hkk := Lib.hid hkk
  have Hk1 := Lib.hid hk1
  clear hkk hk1
  go_wp2_with fail
  refine (MadeB_spec (Hl.out.at HB2.out)).mono ?_
  rintro e w3 ⟨v3, rfl, hb3, hs3⟩
  have HB3 := Lib.hid (below_step hb3 HB2.out)
  obtain ⟨hF1, hF2⟩ := rowF_rowT l
  obtain ⟨F, hFF⟩ : ∃ F, F = rowF l 40 := ⟨_, rfl⟩
  have hs3 : BasV (fun _ => True) w3 v3 ⟨F, 0, false, []⟩ := hFF ▸ hs3.mono (fun _ _ _ => trivial) fun _ _ _ => rfl
  have hmb : madeB l = ⟨F, 0, false, []⟩ := by rw [hFF]; rfl
  have hbg : ∀ c, begunO (madeB l) c = ⟨F, 0, true, begunL c⟩ := fun c => by rw [hFF]; exact begunO_made
  rw [← hFF] at hF1 hF2
  rw [hmb] at hbg
  have HBg := Lib.hid hbg
  have HF1 := Lib.hid hF1
  have Hs3 := Lib.hid hs3
  obtain ⟨fa, fb, fc, fd, rfl⟩ := hs3.shape
  clear hmb hbg hFF hF1 hs3 hb3
  obtain ⟨W6, hW6⟩ : ∃ W, W = w3.alloc (.cells #[.slice fa F.length fb, .int .i64 0, .bool false, .slice fc 0 fd] 25) := ⟨_, rfl⟩
  have hr6 : Row 25 W6 w3.heap.size [.slice fa F.length fb, .int .i64 0, .bool false, .slice fc 0 fd] := by rw [hW6]; exact Row.new w3 [_, _, _, _] _ rfl
  have HS6 := Lib.hid (show Below w3.heap.size w3 W6 by rw [hW6]; exact Seq.way)
  have Q6 := fun {w' : World} (h : Below W6.heap.size W6 w') => Lib.hid ((rowTo hr6 h).four)
  have z6 : w3.heap.size < W6.heap.size := hr6.lt
  have HW6 := Lib.hid hW6
  clear hW6 hr6
  have HW6B := Lib.hid (below_step HS6.out HB3.out)
  go_wp2_with fail
  rw [← HW6.out]
  refine (begun_spec (Hs3.out.at HS6.out) (Hc.out.at HW6B.out) (by simp)).mono ?_
  rintro e w4 ⟨v4, d4, rfl, hb4, hs4, hd4⟩
  rw [HBg.out] at hs4
  have HL := Lib.hid (fun c' (h : c' ∈ begunL c) => begun_facts h)
  have hLl := begunL_len hc60
  have hLK := begunL_take (k := k) hc60
  have hLD := begunL_drop (k := k) hc60
  obtain ⟨L, hL⟩ : ∃ L, L = begunL c := ⟨_, rfl⟩
  rw [← hL] at hs4 hd4 HL hLl hLK hLD
  obtain ⟨L1, hL1⟩ : ∃ M, M = L.take k := ⟨_, rfl⟩
  obtain ⟨L2, hL2⟩ : ∃ M, M = L.drop k := ⟨_, rfl⟩
  rw [← hL1] at hLK
  rw [← hL2] at hLD
  have HLK := Lib.hid hLK
  have HLD := Lib.hid hLD
  have HL1 := Lib.hid hL1
  have HL2 := Lib.hid hL2
  clear hLK hLD hL1 hL2
  have HB4 := Lib.hid hb4
  have Hs4 := Lib.hid (show BasV (fun _ => True) w4 v4 ⟨F, 0, true, L⟩ from hs4.mono (fun _ _ _ => trivial) fun _ _ _ => rfl)
  obtain ⟨ga, gb, gc, gd, rfl⟩ := hs4.shape
  obtain ⟨da, db, rfl⟩ := hd4.shape
  have HC4 := Lib.hid HW6B
  have HLl := Lib.hid hLl
  clear hL hs4 hd4 hb4 hLl
  obtain ⟨W7, hW7⟩ : ∃ W, W = w4.alloc (.cells #[.slice ga F.length gb, .int .i64 0, .bool true, .slice gc L.length gd] 25) := ⟨_, rfl⟩
  have hr7 : Row 25 W7 w4.heap.size [.slice ga F.length gb, .int .i64 0, .bool true, .slice gc L.length gd] := by rw [hW7]; exact Row.new w4 [_, _, _, _] _ rfl
  have HS7 := Lib.hid (show Below w4.heap.size w4 W7 by rw [hW7]; exact Seq.way)
  have Q7 := fun {w' : World} (h : Below W7.heap.size W7 w') => Lib.hid ((rowTo hr7 h).four)
  have z7 : w4.heap.size < W7.heap.size := hr7.lt
  have HW7 := Lib.hid hW7
  clear hW7 hr7
  have H67 := Lib.hid (below_step HS7.out HB4.out)
  have H37 := Lib.hid (below_step H67.out HS6.out)
  have H7 := Lib.hid (below_step H67.out HW6B.out)
  obtain ⟨_, _, ee, hlcc, hcm, hcl2, hnone, -⟩ := Hc.out
  simp only [Value.slice.injEq, true_and] at ee
  obtain ⟨rfl, rfl⟩ := ee
  have hk1 : (k : Int) ≤ c.length := by omega
  have hk2 : (k : Int) ≤ cc := by omega
  have hk0 : (0 : Int) ≤ k := by omega
  obtain ⟨c0, c1, c2, c3, -, -, -, -⟩ := (Q6 H67.out).out
  go_upto_region 7 with fail
  rw [← HW7.out]
  rw [Hk1.out]
  go_cut [12] (fun s12 wx => ∃ B a b c' d, s12 = .pointer (some ⟨B, 0, none⟩) ∧ Row 25 wx B [.slice a F.length b, .int .i64 0, .bool true, .slice c' L1.length d] ∧ BasV (fun _ => True) wx (.agg #[.slice a F.length b, .int .i64 0, .bool true, .slice c' L1.length d]) ⟨F, 0, true, L1⟩ ∧ Below W7.heap.size W7 wx)
  case first =>
    have Kp : ∀ {w' : World}, Below W7.heap.size W7 w' → w'.cell? ⟨w3.heap.size, 0, none⟩ = some (.slice fa F.length fb) ∧ w'.cell? ⟨w3.heap.size, 1, none⟩ = some (.int .i64 0) ∧ w'.cell? ⟨w3.heap.size, 2, none⟩ = some (.bool false) ∧ w'.cell? ⟨w3.heap.size, 3, none⟩ = some (.slice fc 0 fd) := fun h =>
      have q := (Q6 (below_step h H67.out)).out
      ⟨q.1, q.2.1, q.2.2.1, q.2.2.2.1⟩
    have p1 : Below W7.heap.size W7 W7.drew := Seq.way
    have p2 : Below W7.heap.size W7 (W7.alloc (.cells #[.slice none 0 0, .int .i64 0, .bool false, .slice none 0 0] 25)).drew := Seq.way
    have p3 : Row 25 (W7.alloc (.cells #[.slice none 0 0, .int .i64 0, .bool false, .slice none 0 0] 25)).drew W7.heap.size [.slice none 0 0, .int .i64 0, .bool false, .slice none 0 0] := Row.drewE (Row.new W7 [.slice none 0 0, .int .i64 0, .bool false, .slice none 0 0] 25 rfl)
    have k1 : ∀ {w' : World}, Below W7.heap.size W7 w' → BasV (fun x => x < W7.heap.size) w' (.agg #[.slice fa F.length fb, .int .i64 0, .bool false, .slice fc 0 fd]) ⟨F, 0, false, []⟩ := fun h =>
      ((Hs3.out.at H37.out).bnd.at h).mono (fun x hx _ => hx.2) fun _ _ _ => rfl
    have k2 : ∀ {w' : World}, Below W7.heap.size W7 w' → Seq changeE T w' (.slice ca k cc) (c.take k) := fun h => (Hc.out.at (below_step h H7.out)).take hkl
    have k3 : (⟨F, 0, false, []⟩ : Bas).todo.length ≤ 1000 := by simp
    have k4 : ∀ {S : Nat → Prop} {w' : World} {o : Value}, BasV S w' o (begunO ⟨F, 0, false, []⟩ (c.take k)) → BasV S w' o ⟨F, 0, true, L1⟩ := fun h => by rw [HBg.out, HLK.out] at h; exact h
    go_region_held3 (fun w' => w'.cell? ⟨w3.heap.size, 0, none⟩ = some (.slice fa F.length fb) ∧ w'.cell? ⟨w3.heap.size, 1, none⟩ = some (.int .i64 0) ∧ w'.cell? ⟨w3.heap.size, 2, none⟩ = some (.bool false) ∧ w'.cell? ⟨w3.heap.size, 3, none⟩ = some (.slice fc 0 fd))
      (first
        | (with_reducible exact Kp p1) | (with_reducible exact Kp p2) | (with_reducible exact Kp HB5) | (with_reducible exact Kp (HB5.alloc zz5 _)) | (with_reducible exact Kp (below_set4 HB5 (Nat.le_refl _))) | go_keep)
      (first
        | (go_at_call 30; (with_reducible refine (begun_spec (w := W7.drew) (k1 p1) (k2 p1) k3).mono ?_); rintro e w5 ⟨v5, d5, rfl, hb5, hs5, hd5⟩; have HB5 := below_step hb5 p1; have zz5 := HB5.size; have hp5 := k4 hs5; obtain ⟨x50, x51, x52, x53, rfl⟩ := hp5.shape; obtain ⟨y50, y51, rfl⟩ := hd5.shape)
        | (go_at_call 30; (with_reducible refine (begun_spec (w := (W7.alloc (.cells #[.slice none 0 0, .int .i64 0, .bool false, .slice none 0 0] 25)).drew) (k1 p2) (k2 p2) k3).mono ?_); rintro e w5 ⟨v5, d5, rfl, hb5, hs5, hd5⟩; have HB5 := below_step hb5 p2; have zz5 := HB5.size; have r5 := rowTo p3 hb5; obtain ⟨e50, e51, e52, e53, f50, f51, f52, f53⟩ := r5.four; have hp5 := k4 hs5; obtain ⟨x50, x51, x52, x53, rfl⟩ := hp5.shape; obtain ⟨y50, y51, rfl⟩ := hd5.shape))
    · go_wp2_with fail
      go_meet
      exact ⟨_, _, _, _, _, rfl, Row.new _ [_, _, _, _] _ rfl, (hp5.mono (T := fun _ => True) (fun _ _ _ => trivial) fun _ _ _ => rfl).at Seq.way, HB5.alloc zz5 _⟩
    · go_wp2_with fail
      go_meet
      exact ⟨_, _, _, _, _, rfl, r5.set4, hp5.mono (fun _ _ _ => trivial) (fun x hx _ => heap_set4 (hx.elim (fun h => by omega) fun h => by simp at h; omega)), below_set4 HB5 (Nat.le_refl _)⟩
  case rest =>
    obtain ⟨B12, qa, qb, qc, qd, rfl, hr12, hs12, hb12⟩ := hcut
    obtain ⟨wd, rfl⟩ : ∃ wd, wd = wc := ⟨_, rfl⟩
    have HS12 := Lib.hid hs12
    have Q12 := fun {w' : World} (h : Below wd.heap.size wd w') => Lib.hid ((rowTo hr12 h).four)
    have z12 : B12 < wd.heap.size := hr12.lt
    have H7d := Lib.hid hb12
    have Hd := Lib.hid (below_step hb12 H7.out)
    clear hr12 hs12 hb12 c0 c1 c2 c3
    obtain ⟨d0, d1, d2, d3, -, -, -, -⟩ := (Q7 H7d.out).out
    have HFK := Lib.hid (show ∀ c ∈ L1, factT c.t = true from fun c h => HL.out c (List.mem_of_mem_take (HL1.out ▸ h)))
    have HFD := Lib.hid (show ∀ c ∈ L2, factT c.t = true from fun c h => HL.out c (List.mem_of_mem_drop (HL2.out ▸ h)))
    have hkL : k ≤ L.length := by have := HLl.out; omega
    have hLl60 : L.length ≤ 60 := by have := HLl.out; omega
    have HkL := Lib.hid (show L1.length = k ∧ L2.length = L.length - k from ⟨by rw [HL1.out, List.length_take]; omega, by rw [HL2.out, List.length_drop]⟩)
    go_wp2_with fail
    refine (CommitP_spec (Hs4.out.at (below_step H7d.out HS7.out)) HF1.out (show (0 : Int) ≤ 0 by omega) (show (0 : Int) ≤ _ by omega)).mono ?_
    rintro e w8 ⟨o8, x8, y8, rfl, hb8, ho8, hx8, hy8⟩
    have hcom := com_of (n := 0) HF1.out HL.out (by omega)
    rw [hcom.1] at ho8
    rw [hcom.2.1]
    obtain ⟨N, hN⟩ : ∃ N, N = nowL F L := ⟨_, rfl⟩
    rw [← hN] at ho8
    have HN := Lib.hid hN
    have Ho8 := Lib.hid (show BasV (fun _ => True) w8 o8 ⟨N, 1, false, []⟩ from ho8.mono (fun _ _ _ => trivial) fun _ _ _ => rfl)
    have Hd8 := Lib.hid hb8
    obtain ⟨oa, ob, oc, od, rfl⟩ := ho8.shape
    obtain ⟨xa, xb, rfl⟩ := hx8.shape
    obtain ⟨ya, yb, rfl⟩ := hy8.shape
    clear hb8 ho8 hx8 hy8 hcom hN d0 d1 d2 d3
    obtain ⟨W9, hW9⟩ : ∃ W, W = w8.alloc (.cells #[.slice oa N.length ob, .int .i64 1, .bool false, .slice oc 0 od] 25) := ⟨_, rfl⟩
    have hr9 : Row 25 W9 w8.heap.size [.slice oa N.length ob, .int .i64 1, .bool false, .slice oc 0 od] := by rw [hW9]; exact Row.new w8 [_, _, _, _] _ rfl
    have HS9 := Lib.hid (show Below w8.heap.size w8 W9 by rw [hW9]; exact Seq.way)
    have Q9 := fun {w' : World} (h : Below W9.heap.size W9 w') => Lib.hid ((rowTo hr9 h).four)
    have z9 : w8.heap.size < W9.heap.size := hr9.lt
    have HW9 := Lib.hid hW9
    clear hW9 hr9
    have Hd9 := Lib.hid (below_step HS9.out Hd8.out)
    obtain ⟨d0, d1, d2, d3, -, -, -, -⟩ := (Q12 Hd8.out).out
    have l8 : B12 < w8.heap.size := by have := Hd8.out.size; omega
    go_wp2_with fail
    rw [← HW9.out]
    refine (CommitP_spec (HS12.out.at Hd9.out) HF1.out (show (0 : Int) ≤ 0 by omega) (show (0 : Int) ≤ _ by omega)).mono ?_
    rintro e w10 ⟨o10, x10, y10, rfl, hb10, ho10, hx10, hy10⟩
    have hcom := com_of (n := 0) HF1.out HFK.out (by have := HkL.out.1; omega)
    have hPl := nowL_len HF1.out HFK.out (by have := HkL.out.1; omega)
    have hP1 := nowL_rowT (todo := L1) HF1.out
    rw [hcom.1] at ho10
    rw [hcom.2.1]
    obtain ⟨P, hP⟩ : ∃ P, P = nowL F L1 := ⟨_, rfl⟩
    rw [← hP] at ho10 hPl hP1
    rw [HkL.out.1] at hPl
    have HP := Lib.hid hP
    have HP1 := Lib.hid hP1
    have Ho10 := Lib.hid (show BasV (fun _ => True) w10 o10 ⟨P, 1, false, []⟩ from ho10.mono (fun _ _ _ => trivial) fun _ _ _ => rfl)
    have H910 := Lib.hid hb10
    obtain ⟨pa, pb, pc, pd, rfl⟩ := ho10.shape
    obtain ⟨xa', xb', rfl⟩ := hx10.shape
    obtain ⟨ya', yb', rfl⟩ := hy10.shape
    clear hb10 ho10 hx10 hy10 hcom hP hP1 d0 d1 d2 d3
    obtain ⟨W11, hW11⟩ : ∃ W, W = w10.alloc (.cells #[.slice pa P.length pb, .int .i64 1, .bool false, .slice pc 0 pd] 25) := ⟨_, rfl⟩
    have hr11 : Row 25 W11 w10.heap.size [.slice pa P.length pb, .int .i64 1, .bool false, .slice pc 0 pd] := by rw [hW11]; exact Row.new w10 [_, _, _, _] _ rfl
    have HS11 := Lib.hid (show Below w10.heap.size w10 W11 by rw [hW11]; exact Seq.way)
    have Q11 := fun {w' : World} (h : Below W11.heap.size W11 w') => Lib.hid ((rowTo hr11 h).four)
    have z11 : w10.heap.size < W11.heap.size := hr11.lt
    have HW11 := Lib.hid hW11
    clear hW11 hr11
    have H911 := Lib.hid (below_step HS11.out H910.out)
    have Hd11 := Lib.hid (below_step H911.out Hd9.out)
    have HW := Lib.hid (below_step Hd11.out Hd.out)
    have l9 : w8.heap.size < w10.heap.size := by have := H910.out.size; omega
    obtain ⟨d0, d1, d2, d3, -, -, -, -⟩ := (Q11 (Below.refl _ _)).out
    have hk3 : (k : Int) ≤ cc := by omega
    have hk4 : (c.length : Int) ≤ cc := by omega
    obtain ⟨bo, hbo⟩ : ∃ bo, (if cc = k then ca else ca.map (·.add (k * 2))) = bo := ⟨_, rfl⟩
    have Hbo := Lib.hid hbo.symm
    go_upto_region 10 with fail
    rw [← HW11.out]
    go_cut [22] (fun s12 wx => ∃ B a b c' d, s12 = .pointer (some ⟨B, 0, none⟩) ∧ Row 25 wx B [.slice a P.length b, .int .i64 1, .bool true, .slice c' L2.length d] ∧ BasV (fun _ => True) wx (.agg #[.slice a P.length b, .int .i64 1, .bool true, .slice c' L2.length d]) ⟨P, 1, true, L2⟩ ∧ Below W11.heap.size W11 wx)
    case first =>
      have Kp : ∀ {w' : World}, Below W11.heap.size W11 w' → w'.cell? ⟨w10.heap.size, 0, none⟩ = some (.slice pa P.length pb) ∧ w'.cell? ⟨w10.heap.size, 1, none⟩ = some (.int .i64 1) ∧ w'.cell? ⟨w10.heap.size, 2, none⟩ = some (.bool false) ∧ w'.cell? ⟨w10.heap.size, 3, none⟩ = some (.slice pc 0 pd) := fun h =>
        have q := (Q11 h).out
        ⟨q.1, q.2.1, q.2.2.1, q.2.2.2.1⟩
      have p1 : Below W11.heap.size W11 W11.drew := Seq.way
      have p2 : Below W11.heap.size W11 (W11.alloc (.cells #[.slice none 0 0, .int .i64 0, .bool false, .slice none 0 0] 25)).drew := Seq.way
      have p3 : Row 25 (W11.alloc (.cells #[.slice none 0 0, .int .i64 0, .bool false, .slice none 0 0] 25)).drew W11.heap.size [.slice none 0 0, .int .i64 0, .bool false, .slice none 0 0] := Row.drewE (Row.new W11 [.slice none 0 0, .int .i64 0, .bool false, .slice none 0 0] 25 rfl)
      have k1 : ∀ {w' : World}, Below W11.heap.size W11 w' → BasV (fun x => x < W11.heap.size) w' (.agg #[.slice pa P.length pb, .int .i64 1, .bool false, .slice pc 0 pd]) ⟨P, 1, false, []⟩ := fun h =>
        ((Ho10.out.at HS11.out).bnd.at h).mono (fun x hx _ => hx.2) fun _ _ _ => rfl
      have k2 : ∀ {w' : World}, Below W11.heap.size W11 w' → Seq changeE T w' (.slice bo (c.length - k) (cc - k)) (c.drop k) := fun h => (Hc.out.at (below_step h HW.out)).drop hkl Hbo.out.symm.symm rfl rfl
      have k3 : (⟨P, 1, false, []⟩ : Bas).todo.length ≤ 1000 := by simp
      have k4 : ∀ {S : Nat → Prop} {w' : World} {o : Value}, BasV S w' o (begunO ⟨P, 1, false, []⟩ (c.drop k)) → BasV S w' o ⟨P, 1, true, L2⟩ := fun h => by
        rw [show begunO ⟨P, 1, false, []⟩ (c.drop k) = ⟨P, 1, true, L2⟩ by unfold begunO; rw [HLD.out]; simp] at h; exact h
      go_region_held3 (fun w' => w'.cell? ⟨w10.heap.size, 0, none⟩ = some (.slice pa P.length pb) ∧ w'.cell? ⟨w10.heap.size, 1, none⟩ = some (.int .i64 1) ∧ w'.cell? ⟨w10.heap.size, 2, none⟩ = some (.bool false) ∧ w'.cell? ⟨w10.heap.size, 3, none⟩ = some (.slice pc 0 pd))
        (first
          | (with_reducible exact Kp p1) | (with_reducible exact Kp p2) | (with_reducible exact Kp HB5) | (with_reducible exact Kp (HB5.alloc zz5 _)) | (with_reducible exact Kp (below_set4 HB5 (Nat.le_refl _))) | go_keep)
        (first
          | (go_at_call 30; (with_reducible refine (begun_spec (w := W11.drew) (k1 p1) (k2 p1) k3).mono ?_); rintro e w5 ⟨v5, d5, rfl, hb5, hs5, hd5⟩; have HB5 := below_step hb5 p1; have zz5 := HB5.size; have hp5 := k4 hs5; obtain ⟨x50, x51, x52, x53, rfl⟩ := hp5.shape; obtain ⟨y50, y51, rfl⟩ := hd5.shape)
          | (go_at_call 30; (with_reducible refine (begun_spec (w := (W11.alloc (.cells #[.slice none 0 0, .int .i64 0, .bool false, .slice none 0 0] 25)).drew) (k1 p2) (k2 p2) k3).mono ?_); rintro e w5 ⟨v5, d5, rfl, hb5, hs5, hd5⟩; have HB5 := below_step hb5 p2; have zz5 := HB5.size; have r5 := rowTo p3 hb5; obtain ⟨e50, e51, e52, e53, f50, f51, f52, f53⟩ := r5.four; have hp5 := k4 hs5; obtain ⟨x50, x51, x52, x53, rfl⟩ := hp5.shape; obtain ⟨y50, y51, rfl⟩ := hd5.shape))
      · go_wp2_with fail
        go_meet
        exact ⟨_, _, _, _, _, rfl, Row.new _ [_, _, _, _] _ rfl, (hp5.mono (T := fun _ => True) (fun _ _ _ => trivial) fun _ _ _ => rfl).at Seq.way, HB5.alloc zz5 _⟩
      · go_wp2_with fail
        go_meet
        exact ⟨_, _, _, _, _, rfl, r5.set4, hp5.mono (fun _ _ _ => trivial) (fun x hx _ => heap_set4 (hx.elim (fun h => by omega) fun h => by simp at h; omega)), below_set4 HB5 (Nat.le_refl _)⟩
    case rest =>
      obtain ⟨B22, ra, rb, rc, rd, rfl, hr22, hs22, hb22⟩ := hcut
      obtain ⟨we, rfl⟩ : ∃ we, we = wc := ⟨_, rfl⟩
      have HS22 := Lib.hid hs22
      obtain ⟨d0, d1, d2, d3, -, -, -, -⟩ := hr22.four
      have H9e := Lib.hid (below_step hb22 H911.out)
      have He := Lib.hid (below_step hb22 HW.out)
      have z22 : B22 < we.heap.size := hr22.lt
      clear hr22 hs22 hb22 hk3 hk4 hbo
      go_wp2_with fail
      refine (CommitP_spec HS22.out HP1.out (show (0 : Int) ≤ 1 by omega) (show (1 : Int) ≤ _ by omega)).mono ?_
      rintro e w14 ⟨o14, x14, y14, rfl, hb14, ho14, hx14, hy14⟩
      have hcom := com_of (n := 1) HP1.out HFD.out (by have := HkL.out.2; omega)
      rw [hcom.1] at ho14
      rw [hcom.2.1]
      have hNN : nowL P L2 = N := by
        rw [HP.out, HN.out, HL1.out, HL2.out, ← nowL_app, List.take_append_drop]
      rw [hNN] at ho14
      have Ho14 := Lib.hid (show BasV (fun _ => True) w14 o14 ⟨N, 2, false, []⟩ from ho14.mono (fun _ _ _ => trivial) fun _ _ _ => rfl)
      have H9f := Lib.hid (below_step hb14 H9e.out)
      have Hf := Lib.hid (below_step hb14 He.out)
      obtain ⟨sa, sb, sc, sd, rfl⟩ := ho14.shape
      obtain ⟨xa2, xb2, rfl⟩ := hx14.shape
      obtain ⟨ya2, yb2, rfl⟩ := hy14.shape
      clear hb14 ho14 hx14 hy14 hcom hNN d0 d1 d2 d3
      obtain ⟨W15, hW15⟩ : ∃ W, W = w14.alloc (.cells #[.slice sa N.length sb, .int .i64 2, .bool false, .slice sc 0 sd] 25) := ⟨_, rfl⟩
      have hr15 : Row 25 W15 w14.heap.size [.slice sa N.length sb, .int .i64 2, .bool false, .slice sc 0 sd] := by rw [hW15]; exact Row.new w14 [_, _, _, _] _ rfl
      have HS15 := Lib.hid (show Below w14.heap.size w14 W15 by rw [hW15]; exact Seq.way)
      have Q15 := fun {w' : World} (h : Below W15.heap.size W15 w') => Lib.hid ((rowTo hr15 h).four)
      have z15 : w14.heap.size < W15.heap.size := hr15.lt
      have HW15 := Lib.hid hW15
      clear hW15 hr15
      have H9g := Lib.hid (below_step HS15.out H9f.out)
      have Hg := Lib.hid (below_step HS15.out Hf.out)
      obtain ⟨d0, d1, d2, d3, -, -, -, -⟩ := (Q9 H9f.out).out
      have l9f : w8.heap.size < w14.heap.size := by have := H9f.out.size; omega
      go_wp2_with fail
      rw [← HW15.out]
      refine (SameAll_spec (Ho8.out.seqs.1.at (below_step H9g.out HS9.out)) (Ho14.out.seqs.1.at HS15.out)).mono ?_
      rintro e w16 ⟨rfl, hq16⟩
      have Hg16 := hq16.below W15.heap.size
      obtain ⟨d0, d1, d2, d3, -, -, -, -⟩ := (Q9 (below_step Hg16 H9g.out)).out
      obtain ⟨e0, e1, e2, e3, -, -, -, -⟩ := (Q15 Hg16).out
      have HZ := Lib.hid (below_step Hg16 Hg.out)
      clear hq16 Hg16
      go_wp2_with fail
      go_ret
      exact ⟨ret_bool (by simp), HZ.out⟩
end Go.Proofs.Yteefdmpaclnaiaa
