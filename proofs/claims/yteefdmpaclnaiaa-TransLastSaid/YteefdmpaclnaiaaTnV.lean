/-
  Layer 13: the walk of TransLast.
-/
import Derived.Test.YteefdmpaclnaiaaTnT
import Derived.Deep.RegionHeld3
namespace Go.Proofs.Yteefdmpaclnaiaa
open Go Go.RowKit

set_option maxHeartbeats 8000000 in
set_option maxRecDepth 100000 in
theorem last_law_spec {S T : Nat → Prop} {w : World} {v u : Value} {l : List (List Cell)} {c : List Chg} (hl : Seq (seqE cellE) S w v l) (hc : Seq changeE T w u c) :
    Calls Try.prog 9 #[v, u] w (RetV (.bool true) w) := by
  have Hl := Lib.hid hl
  have Hc := Lib.hid hc
  obtain ⟨la, lc, rfl, -⟩ := hl
  obtain ⟨ca, cc, rfl, -⟩ := hc
  go_enter Try.func9, Try.ntmps9
  go_wp2_with fail
  refine head_spec.mono ?_
  rintro e w1 ⟨rfl, hb1⟩
  have HB1 := Lib.hid hb1
  clear hb1
  go_wp2_with fail
  refine (greatL_spec (Hl.out.at HB1.out) (Hc.out.at HB1.out)).mono ?_
  rintro e w2 ⟨bo, rfl, hb2, hg⟩
  have HB2 := Lib.hid (below_step hb2 HB1.out)
  clear hb2
  cases bo
  rotate_left 1
  · go_wp2_with fail
    go_ret
    exact ⟨rfl, HB2.out⟩
  obtain ⟨hl60, hc60⟩ := hg rfl
  clear hg
  go_wp2_with fail
  refine (MadeB_spec (Hl.out.at HB2.out)).mono ?_
  rintro e w3 ⟨v3, rfl, hb3, hs3⟩
  have HB3 := Lib.hid (below_step hb3 HB2.out)
  obtain ⟨hF1, hF2⟩ := rowF_rowT l
  obtain ⟨F, hFF⟩ : ∃ F, F = rowF l 40 := ⟨_, rfl⟩
  have hs3 : BasV (fun _ => True) w3 v3 ⟨F, 0, false, []⟩ := hFF ▸ hs3.mono (fun _ _ _ => trivial) fun _ _ _ => rfl
  have hmb : madeB l = ⟨F, 0, false, []⟩ := by rw [hFF]; rfl
  have hbg : ∀ c, begunO (madeB l) c = ⟨F, 0, true, begunL c⟩ := fun c => by rw [hFF]; exact begunO_made
  rw [← hFF] at hF1 hF2
  rw [hmb] at hbg
  have HBg := Lib.hid hbg
  have HF1 := Lib.hid hF1
  have Hs3 := Lib.hid hs3
  obtain ⟨fa, fb, fc, fd, rfl⟩ := hs3.shape
  clear hmb hbg hFF hF1 hs3 hb3
  obtain ⟨W6, hW6⟩ : ∃ W, W = w3.alloc (.cells #[.slice fa F.length fb, .int .i64 0, .bool false, .slice fc 0 fd] 25) := ⟨_, rfl⟩
  have hr6 : Row 25 W6 w3.heap.size [.slice fa F.length fb, .int .i64 0, .bool false, .slice fc 0 fd] := by rw [hW6]; exact Row.new w3 [_, _, _, _] _ rfl
  have HS6 := Lib.hid (show Below w3.heap.size w3 W6 by rw [hW6]; exact Seq.way)
  have Q6 := fun {w' : World} (h : Below W6.heap.size W6 w') => Lib.hid ((rowTo hr6 h).four)
  have z6 : w3.heap.size < W6.heap.size := hr6.lt
  have HW6 := Lib.hid hW6
  clear hW6 hr6
  have HW6B := Lib.hid (below_step HS6.out HB3.out)
  go_wp2_with fail
  rw [← HW6.out]
  refine (begun_spec (Hs3.out.at HS6.out) (Hc.out.at HW6B.out) (by simp)).mono ?_
  rintro e w4 ⟨v4, d4, rfl, hb4, hs4, hd4⟩
  rw [HBg.out] at hs4
  have HL := Lib.hid (fun c' (h : c' ∈ begunL c) => begun_facts h)
  have hLl := begunL_len hc60
  obtain ⟨L, hL⟩ : ∃ L, L = begunL c := ⟨_, rfl⟩
  rw [← hL] at hs4 hd4 HL hLl
  have HB4 := Lib.hid hb4
  have Hs4 := Lib.hid (show BasV (fun _ => True) w4 v4 ⟨F, 0, true, L⟩ from hs4.mono (fun _ _ _ => trivial) fun _ _ _ => rfl)
  have Hd4 := Lib.hid (show Seq changeE (fun _ => True) w4 d4 L from hd4.mono (fun _ _ _ => trivial) fun _ _ _ => rfl)
  obtain ⟨ga, gb, gc, gd, rfl⟩ := hs4.shape
  obtain ⟨da, db, rfl⟩ := hd4.shape
  have HLl := Lib.hid hLl
  have hcl : c.length = L.length := hLl.symm
  have HC4 := Lib.hid HW6B
  clear hL hs4 hd4 hb4 hLl
  rw [hcl] at hc60
  have Hcl := Lib.hid hcl
  obtain ⟨W7, hW7⟩ : ∃ W, W = w4.alloc (.cells #[.slice ga F.length gb, .int .i64 0, .bool true, .slice gc L.length gd] 25) := ⟨_, rfl⟩
  have hr7 : Row 25 W7 w4.heap.size [.slice ga F.length gb, .int .i64 0, .bool true, .slice gc L.length gd] := by rw [hW7]; exact Row.new w4 [_, _, _, _] _ rfl
  have HS7 := Lib.hid (show Below w4.heap.size w4 W7 by rw [hW7]; exact Seq.way)
  have Q7 := fun {w' : World} (h : Below W7.heap.size W7 w') => Lib.hid ((rowTo hr7 h).four)
  have z7 : w4.heap.size < W7.heap.size := hr7.lt
  have HW7 := Lib.hid hW7
  clear hW7 hr7
  have H67 := Lib.hid (below_step HS7.out HB4.out)
  have H37 := Lib.hid (below_step H67.out HS6.out)
  have H7 := Lib.hid (below_step H67.out HW6B.out)
  rw [hcl] at *
  clear hcl
  obtain ⟨d0, d1, d2, d3, -, -, -, -⟩ := (Q7 (Below.refl _ _)).out
  go_wp2_with fail
  rw [← HW7.out]
  refine (CommitP_spec (Hs4.out.at HS7.out) HF1.out (show (0 : Int) ≤ 0 by omega) (show (0 : Int) ≤ _ by omega)).mono ?_
  rintro e w8 ⟨ow8, xw8, yw8, rfl, hbw8, how8, hxw8, hyw8⟩
  have hcom := com_of (n := 0) HF1.out HL.out (by omega)
  rw [hcom.1] at how8
  rw [hcom.2.1]
  rw [hcom.2.2.1] at hxw8
  rw [hcom.2.2.2] at hyw8
  have hN1 := nowL_rowT (todo := L) HF1.out
  have hN2 := nowL_len HF1.out HL.out (by omega)
  obtain ⟨N, hN⟩ : ∃ N, N = nowL F L := ⟨_, rfl⟩
  rw [← hN] at how8 hxw8 hyw8 hN1 hN2
  have HN1 := Lib.hid hN1
  have HN := Lib.hid hN
  have How8 := Lib.hid (show BasV (fun _ => True) w8 ow8 ⟨N, 0 + 1, false, []⟩ from how8.mono (fun _ _ _ => trivial) fun _ _ _ => rfl)
  have Hxw8 := Lib.hid (show Seq (seqE cellE) (fun _ => True) w8 xw8 (lessT N F) from hxw8.mono (fun _ _ _ => trivial) fun _ _ _ => rfl)
  have Hyw8 := Lib.hid (show Seq (seqE cellE) (fun _ => True) w8 yw8 (lessT F N) from hyw8.mono (fun _ _ _ => trivial) fun _ _ _ => rfl)
  have Hbw8 := Lib.hid hbw8
  obtain ⟨oa, ob, oc, od, rfl⟩ := how8.shape
  obtain ⟨xa, xb, rfl⟩ := hxw8.shape
  obtain ⟨ya, yb, rfl⟩ := hyw8.shape
  clear hbw8 how8 hxw8 hyw8 hcom hN hN1
  have H78 := Hbw8
  have hmem := Lib.hid (fun (x : List Cell) => show x ∈ N ↔ (lastL L x = 2 ∨ (lastL L x = 0 ∧ x ∈ F)) by rw [HN.out]; exact mem_now_last HF1.out HL.out (by omega))
  have hvals := Lib.hid (fun (x : List Cell) => lastL_vals (x := x) L 0 (.inl rfl))
  obtain ⟨W10, hW10⟩ : ∃ W, W = w8.alloc (.cells #[.slice oa N.length ob, .int .i64 1, .bool false, .slice oc 0 od] 25) := ⟨_, rfl⟩
  have hr10 : Row 25 W10 w8.heap.size [.slice oa N.length ob, .int .i64 1, .bool false, .slice oc 0 od] := by rw [hW10]; exact Row.new w8 [_, _, _, _] _ rfl
  have HS10 := Lib.hid (show Below w8.heap.size w8 W10 by rw [hW10]; exact Seq.way)
  have Q10 := fun {w' : World} (h : Below W10.heap.size W10 w') => Lib.hid ((rowTo hr10 h).four)
  have z10 : w8.heap.size < W10.heap.size := hr10.lt
  have HW10 := Lib.hid hW10
  clear hW10 hr10
  have H710 := Lib.hid (below_step HS10.out H78.out)
  have H610 := Lib.hid (below_step H710.out H67.out)
  have H310 := Lib.hid (below_step H610.out HS6.out)
  have HA10 := Lib.hid (below_step H610.out HW6B.out)
  have l68 : w3.heap.size < w8.heap.size := by have := H78.out.size; have := H67.out.size; omega
  clear d0 d1 d2 d3
  have hwr : IntKind.i64.wrap (0 + 1) = 1 := by decide
  have HNs := fun {w' : World} (h : Below W10.heap.size W10 w') => Lib.hid (How8.out.seqs.1.at (below_step h HS10.out))
  have HFs := fun {w' : World} (h : Below W10.heap.size W10 w') => Lib.hid (Hs3.out.seqs.1.at (below_step h H310.out))
  have HDs := fun {w' : World} (h : Below W10.heap.size W10 w') => Lib.hid (Hd4.out.at (below_step (below_step h H710.out) HS7.out))
  dsimp only at HNs HFs
  go_wp2_with fail
  rw [← HW10.out]
  go_loopw [13] (fun i wr => ∃ k : Nat, k ≤ L.length ∧ i = .int .i64 k ∧ Below W10.heap.size W10 wr) (fun i _ => L.length - (intOf i).toNat)
  case atStart => exact ⟨0, Nat.zero_le _, rfl, Below.refl _ _⟩
  case round =>
    obtain ⟨k, hk, rfl, hbr⟩ := hrel
    obtain ⟨c0, c1, c2, c3, -, -, -, -⟩ := (Q6 (below_step hbr H610.out)).out
    by_cases hlt : k < L.length
    · obtain ⟨_, _, ee, -, -, hvl, -, h5⟩ := (HDs hbr).out
      simp only [Value.slice.injEq, true_and] at ee
      obtain ⟨rfl, rfl⟩ := ee
      obtain ⟨b1, o1, p1, n1, rfl, -, hlb, e0, e1, hX1⟩ := h5.chg hlt
      have hfx := HL.out _ (List.getElem_mem hlt)
      have hne := lastL_mem (List.getElem_mem hlt)
      obtain ⟨x, hx⟩ : ∃ x, x = L[k].t := ⟨_, rfl⟩
      rw [← hx] at e1 hX1 hfx hne
      have e0 := e1
      clear e1
      have hm := hmem.out x
      have hv := hvals.out x
      obtain ⟨n, hn⟩ : ∃ n, n = lastL L x := ⟨_, rfl⟩
      have hv : n = 0 ∨ n = 1 ∨ n = 2 := hn ▸ hv
      rw [← hn] at hm hne
      have Hn := Lib.hid hn
      clear hx h5 hn
      have hkl : (k : Int) < (L.length : Int) := by omega
      have hk0 : (0 : Int) ≤ (k : Int) := by omega
      have q1 : Below wr.heap.size wr wr.drew := Seq.way
      have kX : ∀ {w' : World}, Below wr.heap.size wr w' → Seq cellE (fun _ => True) w' (.slice p1 x.length n1) x := fun h => hX1.at h
      have kN : ∀ {w' : World}, Below wr.heap.size wr w' → Seq (seqE cellE) (fun _ => True) w' (.slice oa N.length ob) N := fun h => (HNs (below_step h hbr)).out
      have kD : ∀ {w' : World}, Below wr.heap.size wr w' → Seq changeE (fun _ => True) w' (.slice (some ⟨b1, o1, none⟩) L.length db) L := fun h => (HDs (below_step h hbr)).out
      have Kp : ∀ {w' : World}, Below wr.heap.size wr w' → w'.cell? ⟨b1, o1 + k * 2 + 1, none⟩ = some (.slice p1 x.length n1) ∧ w'.cell? ⟨w8.heap.size, 0, none⟩ = some (.slice oa N.length ob) := fun h =>
        ⟨(h.cell hlb).trans e0, (Q10 (below_step h hbr)).out.1⟩
      have sN := HN1.out.sort
      have lN : N.length ≤ 1000000 := by omega
      clear e0
      rcases hv with rfl | rfl | rfl
      · exact absurd rfl hne
      · have hxN := decide_eq_false (show ¬ x ∈ N from fun e => by have := hm.1 e; omega)
        have hn := Hn.out.symm
        clear Hn
        go_wp2_with fail
        go_region_held3 (fun w' => w'.cell? ⟨b1, o1 + k * 2 + 1, none⟩ = some (.slice p1 x.length n1) ∧ w'.cell? ⟨w8.heap.size, 0, none⟩ = some (.slice oa N.length ob))
          (first | (with_reducible exact Kp q1) | (with_reducible exact Kp HB6) | (with_reducible exact Kp HB5) | go_keep)
          (first
            | (go_at_call 32; (with_reducible refine (last_spec (kD HB5) (kX HB5)).mono ?_); rintro e w6 ⟨rfl, hb6⟩; rw [hn]; have HB6 := below_step hb6 HB5)
            | (go_at_call 34; (with_reducible refine (HasP_spec (kN q1) (kX q1) sN lN).mono ?_); rintro e w5 ⟨rfl, hb5⟩; rw [hfx, hxN]; have HB5 := below_step hb5 q1))
        go_wp2_with fail
        go_roundw
        case rel => exact ⟨k + 1, hlt, by go_num, below_step HB6 hbr⟩
        case measure => simp [intOf]; omega
      · have hxN := decide_eq_true (show x ∈ N from hm.2 (.inl rfl))
        have hn := Hn.out.symm
        clear Hn
        go_wp2_with fail
        go_region_held3 (fun w' => w'.cell? ⟨b1, o1 + k * 2 + 1, none⟩ = some (.slice p1 x.length n1) ∧ w'.cell? ⟨w8.heap.size, 0, none⟩ = some (.slice oa N.length ob))
          (first | (with_reducible exact Kp q1) | (with_reducible exact Kp HB6) | (with_reducible exact Kp HB5) | go_keep)
          (first
            | (go_at_call 32; (with_reducible refine (last_spec (kD HB5) (kX HB5)).mono ?_); rintro e w6 ⟨rfl, hb6⟩; rw [hn]; have HB6 := below_step hb6 HB5)
            | (go_at_call 34; (with_reducible refine (HasP_spec (kN q1) (kX q1) sN lN).mono ?_); rintro e w5 ⟨rfl, hb5⟩; rw [hfx, hxN]; have HB5 := below_step hb5 q1))
        go_wp2_with fail
        go_roundw
        case rel => exact ⟨k + 1, hlt, by go_num, below_step HB6 hbr⟩
        case measure => simp [intOf]; omega
    · obtain rfl : k = L.length := by omega
      go_wp2_with fail
      go_loopw [14] (fun i wr => ∃ k : Nat, k ≤ F.length ∧ i = .int .i64 k ∧ Below W10.heap.size W10 wr) (fun i _ => F.length - (intOf i).toNat)
      case atStart => exact ⟨0, Nat.zero_le _, rfl, hbr⟩
      case round =>
        clear hbr c0 c1 c2 c3
        obtain ⟨k, hk, rfl, hbr⟩ := hrel
        obtain ⟨c0, c1, c2, c3, -, -, -, -⟩ := (Q6 (below_step hbr H610.out)).out
        by_cases hlt : k < F.length
        · obtain ⟨_, _, ee, -, -, hvl, -, h5⟩ := (HFs hbr).out
          simp only [Value.slice.injEq, true_and] at ee
          obtain ⟨rfl, rfl⟩ := ee
          obtain ⟨b1, o1, p1, n1, rfl, -, hlb, e0, hX1⟩ := h5.seq hlt
          have hfx := HF1.out.fact _ (List.getElem_mem hlt)
          have hxF : F[k] ∈ F := List.getElem_mem hlt
          obtain ⟨x, hx⟩ : ∃ x, x = F[k] := ⟨_, rfl⟩
          rw [← hx] at e0 hX1 hfx hxF
          have hm := hmem.out x
          have hv := hvals.out x
          obtain ⟨n, hn⟩ : ∃ n, n = lastL L x := ⟨_, rfl⟩
          have hv : n = 0 ∨ n = 1 ∨ n = 2 := hn ▸ hv
          rw [← hn] at hm
          have Hn := Lib.hid hn
          clear hx h5 hn
          have hkl : (k : Int) < (F.length : Int) := by omega
          have hk0 : (0 : Int) ≤ (k : Int) := by omega
          have q1 : Below wr.heap.size wr wr.drew := Seq.way
          have kX : ∀ {w' : World}, Below wr.heap.size wr w' → Seq cellE (fun _ => True) w' (.slice p1 x.length n1) x := fun h => hX1.at h
          have kN : ∀ {w' : World}, Below wr.heap.size wr w' → Seq (seqE cellE) (fun _ => True) w' (.slice oa N.length ob) N := fun h => (HNs (below_step h hbr)).out
          have kD : ∀ {w' : World}, Below wr.heap.size wr w' → Seq changeE (fun _ => True) w' (.slice da L.length db) L := fun h => (HDs (below_step h hbr)).out
          have Kp : ∀ {w' : World}, Below wr.heap.size wr w' → w'.cell? ⟨w3.heap.size, 0, none⟩ = some (.slice (some ⟨b1, o1, none⟩) F.length fb) ∧ w'.cell? ⟨b1, o1 + k, none⟩ = some (.slice p1 x.length n1) ∧ w'.cell? ⟨w8.heap.size, 0, none⟩ = some (.slice oa N.length ob) := fun h =>
            ⟨(Q6 (below_step (below_step h hbr) H610.out)).out.1, (h.cell hlb).trans e0, (Q10 (below_step h hbr)).out.1⟩
          have sN := HN1.out.sort
          have lN : N.length ≤ 1000000 := by omega
          clear e0
          rcases hv with rfl | rfl | rfl
          · have hxN := decide_eq_true (show x ∈ N from hm.2 (.inr ⟨rfl, hxF⟩))
            have hn := Hn.out.symm
            clear Hn
            go_wp2_with fail
            go_region_held3 (fun w' => w'.cell? ⟨w3.heap.size, 0, none⟩ = some (.slice (some ⟨b1, o1, none⟩) F.length fb) ∧ w'.cell? ⟨b1, o1 + k, none⟩ = some (.slice p1 x.length n1) ∧ w'.cell? ⟨w8.heap.size, 0, none⟩ = some (.slice oa N.length ob))
              (first | (with_reducible exact Kp q1) | (with_reducible exact Kp HB6) | (with_reducible exact Kp HB5) | go_keep)
              (first
                | (go_at_call 32; (with_reducible refine (last_spec (kD HB5) (kX HB5)).mono ?_); rintro e w6 ⟨rfl, hb6⟩; rw [hn]; have HB6 := below_step hb6 HB5)
                | (go_at_call 34; (with_reducible refine (HasP_spec (kN q1) (kX q1) sN lN).mono ?_); rintro e w5 ⟨rfl, hb5⟩; rw [hfx, hxN]; have HB5 := below_step hb5 q1))
            go_wp2_with fail
            go_roundw
            case rel => exact ⟨k + 1, hlt, by go_num, below_step HB6 hbr⟩
            case measure => simp [intOf]; omega
          · have hxN := decide_eq_false (show ¬ x ∈ N from fun e => by have := hm.1 e; omega)
            have hn := Hn.out.symm
            clear Hn
            go_wp2_with fail
            go_region_held3 (fun w' => w'.cell? ⟨w3.heap.size, 0, none⟩ = some (.slice (some ⟨b1, o1, none⟩) F.length fb) ∧ w'.cell? ⟨b1, o1 + k, none⟩ = some (.slice p1 x.length n1) ∧ w'.cell? ⟨w8.heap.size, 0, none⟩ = some (.slice oa N.length ob))
              (first | (with_reducible exact Kp q1) | (with_reducible exact Kp HB6) | (with_reducible exact Kp HB5) | go_keep)
              (first
                | (go_at_call 32; (with_reducible refine (last_spec (kD HB5) (kX HB5)).mono ?_); rintro e w6 ⟨rfl, hb6⟩; rw [hn]; have HB6 := below_step hb6 HB5)
                | (go_at_call 34; (with_reducible refine (HasP_spec (kN q1) (kX q1) sN lN).mono ?_); rintro e w5 ⟨rfl, hb5⟩; rw [hfx, hxN]; have HB5 := below_step hb5 q1))
            go_wp2_with fail
            go_roundw
            case rel => exact ⟨k + 1, hlt, by go_num, below_step HB6 hbr⟩
            case measure => simp [intOf]; omega
          · have hxN := decide_eq_true (show x ∈ N from hm.2 (.inl rfl))
            have hn := Hn.out.symm
            clear Hn
            go_wp2_with fail
            go_region_held3 (fun w' => w'.cell? ⟨w3.heap.size, 0, none⟩ = some (.slice (some ⟨b1, o1, none⟩) F.length fb) ∧ w'.cell? ⟨b1, o1 + k, none⟩ = some (.slice p1 x.length n1) ∧ w'.cell? ⟨w8.heap.size, 0, none⟩ = some (.slice oa N.length ob))
              (first | (with_reducible exact Kp q1) | (with_reducible exact Kp HB6) | (with_reducible exact Kp HB5) | go_keep)
              (first
                | (go_at_call 32; (with_reducible refine (last_spec (kD HB5) (kX HB5)).mono ?_); rintro e w6 ⟨rfl, hb6⟩; rw [hn]; have HB6 := below_step hb6 HB5)
                | (go_at_call 34; (with_reducible refine (HasP_spec (kN q1) (kX q1) sN lN).mono ?_); rintro e w5 ⟨rfl, hb5⟩; rw [hfx, hxN]; have HB5 := below_step hb5 q1))
            go_wp2_with fail
            go_roundw
            case rel => exact ⟨k + 1, hlt, by go_num, below_step HB6 hbr⟩
            case measure => simp [intOf]; omega
        · obtain rfl : k = F.length := by omega
          have HZ := Lib.hid (below_step hbr HA10.out)
          go_wp2_with fail
          go_ret
          exact ⟨rfl, HZ.out⟩
end Go.Proofs.Yteefdmpaclnaiaa
