/-
  Layer 13: the walk of TransFull.
-/
import Derived.Test.YteefdmpaclnaiaaTuA
import Derived.Deep.RegionHeld3
import Derived.Deep.Cut
import Derived.Deep.CutRange
import Derived.Deep.DeepCutAuto
import Derived.Outline
namespace Go.Proofs.Yteefdmpaclnaiaa
open Go Go.RowKit

/-- The base with n facts, d told to go, and a told to come. -/
def fullB (n d a : Nat) : Bas := ⟨rowN (List.range' 0 n), 0, true, drops 0 d ++ adds 1000 a⟩
theorem fullB_len {n d a : Nat} : (fullB n d a).todo.length = d + a ∧ (fullB n d a).facts.length = n := by
  unfold fullB drops adds rowN
  simp
theorem fullB_row {n d a : Nat} (h : n ≤ 512) : RowT (fullB n d a).facts := by
  unfold fullB
  exact rowN_rowT List.pairwise_lt_range' (fun i hi => by have := List.mem_range'_1.1 hi; omega) (by rw [List.length_range']; omega)
theorem drops_snoc (k : Nat) : drops 0 (k + 1) = drops 0 k ++ [⟨false, oneT (k : Int)⟩] := by
  unfold drops
  rw [List.range'_1_concat, List.map_append]
  simp
theorem adds_snoc (k : Nat) : adds 1000 (k + 1) = adds 1000 k ++ [⟨true, oneT (1000 + (k : Int))⟩] := by
  unfold adds
  rw [List.range'_1_concat, List.map_append]
  simp
theorem full_drop {n k : Nat} (hk : k ≤ 100) : changeN (fullB n k 0) ⟨false, oneT (k : Int)⟩ = 0 ∧ changeO (fullB n k 0) ⟨false, oneT (k : Int)⟩ = fullB n (k + 1) 0 := by
  have hf : factT (oneT (k : Int)) = true := fact_one (by omega) (by omega)
  unfold changeN changeO fullB
  dsimp only
  rw [if_pos rfl, if_pos hf, if_pos ⟨rfl, hf⟩]
  refine ⟨rfl, ?_⟩
  rw [drops_snoc]
  have e : adds 1000 0 = [] := rfl
  rw [e, List.append_nil, List.append_nil]
theorem full_add {n d k : Nat} (hk : k ≤ 100) : changeN (fullB n d k) ⟨true, oneT (1000 + (k : Int))⟩ = 0 ∧ changeO (fullB n d k) ⟨true, oneT (1000 + (k : Int))⟩ = fullB n d (k + 1) := by
  have hf : factT (oneT (1000 + (k : Int))) = true := fact_one (by omega) (by omega)
  unfold changeN changeO fullB
  dsimp only
  rw [if_pos rfl, if_pos hf, if_pos ⟨rfl, hf⟩]
  refine ⟨rfl, ?_⟩
  rw [adds_snoc, List.append_assoc]
theorem rowN_snoc (k : Nat) : rowN (List.range' 0 (k + 1)) = rowN (List.range' 0 k) ++ [oneT (k : Int)] := by
  unfold rowN
  rw [List.range'_1_concat, List.map_append]
  simp
theorem rowN_len (k : Nat) : (rowN (List.range' 0 k)).length = k := by unfold rowN; simp

theorem full_fit {k j i : Nat} (h0 : 480 ≤ k) (h1 : k ≤ 512) (h2 : j < 40) (h3 : i < 80) (hfit : k - j + i ≤ 512) : commitO (fullB k j i) = ⟨nowL (fullB k j i).facts (fullB k j i).todo, 1, false, []⟩ ∧ commitE (fullB k j i) = 0 ∧ (cameO (fullB k j i)).length = i ∧ (wentO (fullB k j i)).length = j ∧
    (nowL (fullB k j i).facts (fullB k j i).todo).length = k - j + i := by
  obtain ⟨f1, f2, f3, f4⟩ := (full_all (n := k) (d := j) (a := i) h0 h1 h2 h3).fits hfit
  have ho : (fullB k j i).on = true := rfl
  have f1' : fullL (fullB k j i).facts (fullB k j i).todo = false := f1
  unfold commitO commitE cameO wentO
  rw [if_pos ⟨ho, f1'⟩, if_pos ho, if_neg (by rw [f1']; simp), if_pos ⟨ho, f1'⟩, if_pos ⟨ho, f1'⟩]
  exact ⟨rfl, rfl, f3, f4, f2⟩
theorem full_big {k j i : Nat} (h0 : 480 ≤ k) (h1 : k ≤ 512) (h2 : j < 40) (h3 : i < 80) (hfit : 512 < k - j + i) : commitO (fullB k j i) = fullB k j i ∧ commitE (fullB k j i) = 2 ∧ cameO (fullB k j i) = [] ∧ wentO (fullB k j i) = [] ∧
    (nowL (fullB k j i).facts (fullB k j i).todo).length = 512 := by
  obtain ⟨f1, f2⟩ := (full_all (n := k) (d := j) (a := i) h0 h1 h2 h3).big hfit
  have ho : (fullB k j i).on = true := rfl
  have f1' : fullL (fullB k j i).facts (fullB k j i).todo = true := f1
  have hno : ¬ ((fullB k j i).on = true ∧ fullL (fullB k j i).facts (fullB k j i).todo = false) := fun h => by rw [f1'] at h; cases h.2
  unfold commitO commitE cameO wentO
  rw [if_neg hno, if_pos ho, if_pos f1', if_neg hno, if_neg hno]
  exact ⟨rfl, rfl, rfl, rfl, f2⟩

set_option maxHeartbeats 8000000 in
set_option maxRecDepth 100000 in
theorem full_spec {w : World} {n d a : Nat} (hn : n < 65536) (hd : d < 256) (ha : a < 256) :
    Calls Try.prog 7 #[.int .u16 n, .int .u8 d, .int .u8 a] w (RetV (.bool true) w) := by
  obtain ⟨N, hN⟩ : ∃ N : Nat, N = 480 + n % 33 := ⟨_, rfl⟩
  obtain ⟨D, hD⟩ : ∃ D : Nat, D = d % 40 := ⟨_, rfl⟩
  obtain ⟨A, hA⟩ : ∃ A : Nat, A = a % 80 := ⟨_, rfl⟩
  have hN1 := Lib.hid (show 480 ≤ N ∧ N ≤ 512 by omega)
  have hD1 := Lib.hid (show D < 40 by omega)
  have hA1 := Lib.hid (show A < 80 by omega)
  have HN := Lib.hid (show 480 + (n : Int) % 33 = (N : Int) by omega)
  have HD := Lib.hid (show (d : Int) % 40 = (D : Int) by omega)
  have HA := Lib.hid (show (a : Int) % 80 = (A : Int) by omega)
  clear hN hD hA
  go_enter Try.func7, Try.ntmps7
  go_wp2_with fail
  refine head_spec.mono ?_
  rintro e w1 ⟨rfl, hb1⟩
  have HB1 := Lib.hid hb1
  clear hb1
  go_upto_region 3 with fail
  rw [HN.out]
  go_wp2_with fail
  go_loopw [9, 10] (fun t i wr => ∃ k : Nat, k ≤ N ∧ i = .int .i64 k ∧ Below w1.heap.size w1 wr ∧ Own (seqE cellE) (fun x => w1.heap.size ≤ x) w1.heap.size 30 wr t (rowN (List.range' 0 k))) (fun _ i _ => N - (intOf i).toNat)
  case atStart => exact ⟨0, Nat.zero_le _, rfl, Below.refl _ _, Own.nil _ _ _ _ _⟩
  case round =>
    obtain ⟨k, hk, rfl, hbr, hown⟩ := hrel
    have hzr := hbr.size
    have Hbr := Lib.hid hbr
    have HO := Lib.hid hown
    obtain ⟨ta, tc, rfl, -⟩ := hown.shape
    have hlen := rowN_len k
    have HLk := Lib.hid hlen
    rw [hlen] at HO ⊢
    clear hown hbr hlen
    have hn5 := hN1.out
    by_cases hlt : k < N
    · have ik : IntOK (k : Int) := ⟨by omega, by omega⟩
      have hkN : (k : Int) < (N : Int) := by omega
      have hk0 : (0 : Int) ≤ (k : Int) := by omega
      go_wp2_with fail
      refine (one_spec ik).mono ?_
      rintro e w2 ⟨v2, rfl, hb2, hs2⟩
      obtain ⟨va, vc, rfl⟩ := hs2.shape
      have hl2 : (oneT (k : Int)).length = 2 := rfl
      rw [hl2] at hs2 ⊢
      have HO2 := Lib.hid (HO.out.move hb2)
      have hown9 := Lib.hid (fun x (h : (Value.slice ta k tc).ownBlock = some x) => HO.out.blk h)
      have hv2 := Lib.hid (show Seq cellE (fun x => w1.heap.size ≤ x ∧ (Value.slice ta k tc).ownBlock ≠ some x) w2 (.slice va 2 vc) (oneT (k : Int)) from
        hs2.mono (fun x hx _ => ⟨by omega, fun e => by have := (hown9.out x e).2; omega⟩) fun _ _ _ => rfl)
      have Hb2 := Lib.hid hb2
      have hz2 := hb2.size
      clear hs2 hb2
      go_wp2_with (at_builtin; refine wpList_app_seqW (E := cellE) (S := fun x => w1.heap.size ≤ x) (base := w1.heap.size) (y := oneT (k : Int)) (xs := rowN (List.range' 0 k)) (v := .slice ta k tc) rfl _ _ 22 rfl Try.underlying22 infoSeq rfl (HO2.out.move Seq.way) rfl (hv2.out.at Seq.way) (fun x h _ => h) (by simp) (by rw [HLk.out]; omega) (by simp; omega) ?_)
      intro ao4 cap4 w4 hown4 hkept
      rw [← rowN_snoc] at hown4
      rw [HLk.out] at hown4 hkept ⊢
      have hb4 : Below w1.heap.size w1 w4 := (below_step Hb2.out Hbr.out).trans ((Seq.way : Below w1.heap.size w2 _).trans hkept.below)
      have HO4 := Lib.hid hown4
      have Hb4 := Lib.hid hb4
      clear hown4 hkept hb4
      go_wp2_with fail
      go_roundw
      case rel => exact ⟨k + 1, hlt, by go_num, Hb4.out, HO4.out⟩
      case measure => simp [intOf]; omega
    · obtain rfl : k = N := by omega
      have hL := Lib.hid (show Seq (seqE cellE) (fun _ => True) wr (.slice ta k tc) (rowN (List.range' 0 k)) from HO.out.seq (by rw [HLk.out]; omega) (fun _ _ _ => trivial))
      have Hw := Lib.hid (below_step Hbr.out HB1.out)
      clear HO Hbr
      have hbas := Lib.hid (show BasV (fun _ => True) wr (.agg #[.slice ta k tc, .int .i64 0, .bool false, .slice none 0 0]) ⟨rowN (List.range' 0 k), 0, false, []⟩ from
        ⟨ta, tc, none, 0, by rw [HLk.out]; rfl, show IntOK 0 from ⟨by decide, by decide⟩, by dsimp only; rw [HLk.out]; exact hL.out, Seq.nil _ _ _⟩)
      go_wp2_with fail
      refine (BeginP_spec (hbas.out.at Seq.way)).mono ?_
      rintro e w3 ⟨v3, rfl, hb3, hs3⟩
      have e3 : beginE ⟨rowN (List.range' 0 k), 0, false, []⟩ = 0 := rfl
      rw [e3]
      have Hb3 := Lib.hid (below_step (hb3.trans (Below.refl _ _)) (Seq.way : Below wr.heap.size wr _))
      have hs3 : BasV (fun _ => True) w3 v3 (fullB k 0 0) := by
        have e : beginO ⟨rowN (List.range' 0 k), 0, false, []⟩ = fullB k 0 0 := rfl
        rw [e] at hs3; exact hs3
      have HS3 := Lib.hid hs3
      obtain ⟨ga, gc, ua, uc, rfl⟩ := hs3.shape
      have hlf := (fullB_len (n := k) (d := 0) (a := 0))
      have Hw3 := Lib.hid (below_step Hb3.out Hw.out)
      clear hs3 hb3 e3 hbas hlf
      go_upto_region 10 with fail
      rw [HD.out]
      obtain ⟨W4, hW4⟩ : ∃ W, W = w3.alloc (.cells #[.slice ga (fullB k 0 0).facts.length gc, .int .i64 (fullB k 0 0).ver, .bool (fullB k 0 0).on, .slice ua (fullB k 0 0).todo.length uc] 25) := ⟨_, rfl⟩
      have hB4 := Lib.hid (show BoxB (fun x => x ≠ w3.heap.size) W4 w3.heap.size (fullB k 0 0) by
        rw [hW4]
        exact ⟨ga, gc, ua, uc, Row.new w3 [_, _, _, _] _ rfl, (HS3.out.bnd.mono (T := fun x => x ≠ w3.heap.size) (fun x hx _ => by have h := hx.2; omega) fun _ _ _ => rfl).at Seq.way⟩)
      have Hw4 := Lib.hid (show Below w.heap.size w W4 by rw [hW4]; exact below_step Seq.way Hw3.out)
      have hl4 : w3.heap.size < W4.heap.size := by rw [hW4]; simp
      rw [← hW4]
      have hBw : w.heap.size ≤ w3.heap.size := Hw3.out.size
      obtain ⟨B, hB⟩ : ∃ B, B = w3.heap.size := ⟨_, rfl⟩
      rw [← hB] at hB4 hl4 hBw ⊢
      clear hW4 HS3 hB
      go_wp2_with fail
      go_loopw [14] (fun i wr => ∃ j : Nat, j ≤ D ∧ i = .int .i64 j ∧ BoxB (fun x => x ≠ B) wr B (fullB k j 0) ∧ Below w.heap.size w wr) (fun i _ => D - (intOf i).toNat)
      case atStart => exact ⟨0, Nat.zero_le _, rfl, hB4.out, Hw4.out⟩
      case round =>
        obtain ⟨j, hj, rfl, hbx, hbr⟩ := hrel
        have hzr := hbr.size
        have Hbr := Lib.hid hbr
        have HBX := Lib.hid hbx
        obtain ⟨ga, gc, ua, uc, hr, hbv⟩ := hbx
        have HR := Lib.hid hr
        have HBV := Lib.hid hbv
        have l5 := hr.lt
        have Hq := fun {w' : World} (h : Below wr.heap.size wr w') => Lib.hid ((rowTo hr h).four)
        have h1l : (fullB k j 0).todo.length ≤ 1000000 := by have := (fullB_len (n := k) (d := j) (a := 0)).1; have := hD1.out; have := hA1.out; omega
        clear hr hbv hbr
        by_cases hlt : j < D
        · have ij : IntOK ((j : Int)) := ⟨by have := hA1.out; have := hD1.out; omega, by have := hA1.out; have := hD1.out; omega⟩
          have hjD : (j : Int) < (D : Int) := by omega
          have hj0 : (0 : Int) ≤ (j : Int) := by omega
          have hj80 : j < 80 := by have := hA1.out; have := hD1.out; omega
          have hN13 : changeN (fullB k j 0) ⟨false, oneT ((j : Int))⟩ = 0 := (full_drop (n := k) (k := j) (by have := hD1.out; omega)).1
          have hO13 : changeO (fullB k j 0) ⟨false, oneT ((j : Int))⟩ = fullB k (j + 1) 0 := (full_drop (n := k) (k := j) (by have := hD1.out; omega)).2
          go_upto_region 13 with fail
          obtain ⟨V, hV⟩ : ∃ V : Value, V = .agg #[.slice ga (fullB k j 0).facts.length gc, .int .i64 (fullB k j 0).ver, .bool (fullB k j 0).on, .slice ua (fullB k j 0).todo.length uc] := ⟨_, rfl⟩
          obtain ⟨D1, hD1⟩ : ∃ D : Value → World → Prop, D = fun u w' => ∃ a c, u = .slice a 2 c ∧ Seq cellE (fun x => wr.heap.size ≤ x) w' (.slice a 2 c) (oneT ((j : Int))) := ⟨_, rfl⟩
          obtain ⟨D2, hD2⟩ : ∃ D : Value → World → Prop, D = fun u w' => ∃ a c, u = .agg #[.bool false, .slice a 2 c] ∧ Seq cellE (fun x => wr.heap.size ≤ x) w' (.slice a 2 c) (oneT ((j : Int))) := ⟨_, rfl⟩
          obtain ⟨D3, hD3⟩ : ∃ D : Value → World → Prop, D = fun u w' => ∃ o, u = .tuple #[o, .int .i64 0] ∧ BasV (fun x => x ≠ B) w' o ((fullB k (j + 1) 0)) := ⟨_, rfl⟩
          refine wp_region_noPanic ?_
          refine wp_region_held_drew (S := fun _ => True) (by kernel_rfl) trivial (fun hHeld => ?_)
          clear hHeld
          refine wpAnyH_flow' (f := 3) [0, 1, 2, 3, 4, 5] [51, 52, 53, 54, 55, 50] [[], [], [1], [2], [0, 3], [4]] [fun v _ => v = V, fun v _ => v = .int .i64 (j : Int), D1, D2, D3, D3]
            (by kernel_rfl) rfl (by decide) [u51, u52, u53, u54, u55, u50] rfl (by rfl) ?_ (fun _ _ => trivial) ?_ ?_
          · intro D hD v y z hDv hyz
            simp only [List.mem_cons, List.not_mem_nil, or_false] at hD
            rcases hD with rfl | rfl | rfl | rfl | rfl | rfl
            · exact hDv
            · exact hDv
            · rw [hD1] at hDv ⊢
              obtain ⟨a, c, e, h⟩ := hDv
              exact ⟨a, c, e, h.at hyz⟩
            · rw [hD2] at hDv ⊢
              obtain ⟨a, c, e, h⟩ := hDv
              exact ⟨a, c, e, h.at hyz⟩
            · rw [hD3] at hDv ⊢
              obtain ⟨o, e, h⟩ := hDv
              exact ⟨o, e, h.at hyz⟩
            · rw [hD3] at hDv ⊢
              obtain ⟨o, e, h⟩ := hDv
              exact ⟨o, e, h.at hyz⟩
          · intro k hk vs y hvs hby0 hdeps
            have hby : Below wr.heap.size wr y := Below.trans (Seq.way : Below wr.heap.size wr wr.drew) hby0
            have hzy := hby.size
            obtain ⟨e0, e1, e2, e3, -, -, -, -⟩ := (Hq hby).out
            obtain ⟨v0, v1, v2, v3, v4, v5, rfl⟩ : ∃ v0 v1 v2 v3 v4 v5, vs = [v0, v1, v2, v3, v4, v5] := by
              match vs, hvs with
              | [v0, v1, v2, v3, v4, v5], _ => exact ⟨v0, v1, v2, v3, v4, v5, rfl⟩
            simp only [putsL, Act.put, List.setIfInBounds_toArray, List.set_cons_zero, List.set_cons_succ]
            rcases (show k = 0 ∨ k = 1 ∨ k = 2 ∨ k = 3 ∨ k = 4 ∨ k = 5 by simp at hk; omega) with rfl | rfl | rfl | rfl | rfl | rfl
            · refine ⟨_, rfl, by rfl, fun K hK => ?_⟩
              go_simp
              exact hK.out _ _ (Below.refl _ _) (holds_of rfl hV.symm)
            · refine ⟨_, rfl, by rfl, fun K hK => ?_⟩
              go_simp
              exact hK.out _ _ (Below.refl _ _) (holds_of rfl rfl)
            · have hd := hdeps 1 (by simp) v1 rfl _ rfl
              subst hd
              refine ⟨_, rfl, by rfl, fun K hK => ?_⟩
              go_simp
              refine (one_spec ij).mono ?_
              rintro e z ⟨v, rfl, hbz, hp⟩
              obtain ⟨a5, c5, rfl⟩ := hp.shape
              refine hK.out _ _ hbz (holds_of (D := D1) rfl ?_)
              rw [hD1]
              exact ⟨a5, c5, rfl, hp.mono (fun x hx _ => by omega) fun _ _ _ => rfl⟩
            · have hd := hdeps 2 (by simp) v2 rfl D1 rfl
              rw [hD1] at hd
              obtain ⟨a5, c5, rfl, hp⟩ := hd
              have Hp := Lib.hid hp
              clear hp
              refine ⟨_, rfl, by rfl, fun K hK => ?_⟩
              go_simp
              refine hK.out _ _ (Below.refl _ _) (holds_of (D := D2) rfl ?_)
              rw [hD2]
              exact ⟨a5, c5, rfl, Hp.out⟩
            · have hd0 := hdeps 0 (by simp) v0 rfl _ rfl
              rw [hV] at hd0
              subst hd0
              have hd := hdeps 3 (by simp) v3 rfl D2 rfl
              rw [hD2] at hd
              obtain ⟨a5, c5, rfl, hp⟩ := hd
              have Hp := Lib.hid hp
              clear hp
              refine ⟨_, rfl, by rfl, fun K hK => ?_⟩
              go_simp
              refine (ChangeP_spec (S := fun x => x ≠ B) (b := (fullB k j 0)) (c := ⟨false, oneT ((j : Int))⟩) (HBV.out.at hby) ⟨a5, c5, rfl, Hp.out.mono (fun x hx _ => by omega) fun _ _ _ => rfl⟩ h1l).mono ?_
              rintro e z ⟨o, rfl, hbz, ho⟩
              rw [hN13]
              refine hK.out _ _ hbz (holds_of (D := D3) rfl ?_)
              rw [hD3]
              rw [hO13] at ho
              exact ⟨o, rfl, ho.mono (fun x hx _ => hx.elim id fun h => by omega) fun _ _ _ => rfl⟩
            · have hd := hdeps 4 (by simp) v4 rfl D3 rfl
              have hd' := hd
              rw [hD3] at hd'
              obtain ⟨o, rfl, -⟩ := hd'
              refine ⟨_, rfl, by rfl, fun K hK => ?_⟩
              go_simp
              exact hK.out _ _ (Below.refl _ _) (holds_of (D := D3) rfl hd)
          intro vs y hvs hby0 hhas
          have hby : Below wr.heap.size wr y := Below.trans (Seq.way : Below wr.heap.size wr wr.drew) hby0
          have hzy := hby.size
          obtain ⟨v0, v1, v2, v3, v4, v5, rfl⟩ : ∃ v0 v1 v2 v3 v4 v5, vs = [v0, v1, v2, v3, v4, v5] := by
            match vs, hvs with
            | [v0, v1, v2, v3, v4, v5], _ => exact ⟨v0, v1, v2, v3, v4, v5, rfl⟩
          have x4 := hhas 5 v5 rfl D3 rfl
          rw [hD3] at x4
          obtain ⟨o, rfl, x4⟩ := x4
          obtain ⟨e0, e1, e2, e3, f0, f1, f2, f3⟩ := (Hq hby).out
          have Hx5 := Lib.hid x4
          obtain ⟨x60, x61, x62, x63, rfl⟩ := x4.shape
          clear x4 hhas hvs hD1 hD2 hD3 hby0 D1 D2 D3
          simp only [putsL, Act.put, List.setIfInBounds_toArray, List.set_cons_zero, List.set_cons_succ]
          refine wpAnyH_take1 (i := 6) (oi := _) (v := ?_) (by kernel_rfl) rfl (by kernel_rfl) (fun _ _ _ h => h) (Or.inl ⟨by rfl, ?_⟩) trivial ?_
          rotate_left 1
          · intro w hSw; go_simp; (with_reducible rfl)
          (try simp only [Act.put, List.getElem_toArray, List.getElem_cons_zero, List.getElem_cons_succ, List.setIfInBounds_toArray, List.set_cons_zero, List.set_cons_succ])
          refine wpAnyH_take1 (i := 7) (oi := _) (v := ?_) (by kernel_rfl) rfl (by kernel_rfl) (fun _ _ _ h => h) (Or.inl ⟨by rfl, ?_⟩) trivial ?_
          rotate_left 1
          · intro w hSw; go_simp; (with_reducible rfl)
          (try simp only [Act.put, List.getElem_toArray, List.getElem_cons_zero, List.getElem_cons_succ, List.setIfInBounds_toArray, List.set_cons_zero, List.set_cons_succ])
          refine wpAnyH_one (i := 8) (by kernel_rfl) rfl (by rfl) fun K hK => ?_
          go_simp
          refine hK.out _ _ trivial fun hHeld => ?_
          clear hK K hHeld
          (try simp only [Act.put, List.getElem_toArray, List.getElem_cons_zero, List.getElem_cons_succ, List.setIfInBounds_toArray, List.set_cons_zero, List.set_cons_succ])
          refine wpAnyH_done (by kernel_rfl) ?_ _
          refine NoPanic.normal ?_
          go_wp2_with fail
          go_roundw
          case rel => exact ⟨j + 1, hlt, by go_num, ⟨x60, x61, x62, x63, (rowTo HR.out hby).set4, Hx5.out.mono (fun _ h _ => h) fun x hx _ => heap_set4 hx⟩, below_set4 (below_step hby Hbr.out) hBw⟩
          case measure => simp [intOf]; omega
        · obtain rfl : j = D := by omega
          go_upto_region 15 with fail
          rw [HA.out]
          have hnlt := hlt
          clear h1l Hq HR HBV l5
          go_wp2_with fail
          go_loopw [16] (fun i wr => ∃ i' : Nat, i' ≤ A ∧ i = .int .i64 i' ∧ BoxB (fun x => x ≠ B) wr B (fullB k j i') ∧ Below w.heap.size w wr) (fun i _ => A - (intOf i).toNat)
          case atStart => exact ⟨0, Nat.zero_le _, rfl, HBX.out, Hbr.out⟩
          clear HBX Hbr hnlt hzr
          case round =>
            obtain ⟨i, hj, rfl, hbx, hbr⟩ := hrel
            have hzr := hbr.size
            have Hbr := Lib.hid hbr
            have HBX := Lib.hid hbx
            obtain ⟨ga, gc, ua, uc, hr, hbv⟩ := hbx
            have HR := Lib.hid hr
            have HBV := Lib.hid hbv
            have l5 := hr.lt
            have Hq := fun {w' : World} (h : Below wr.heap.size wr w') => Lib.hid ((rowTo hr h).four)
            have h1l : (fullB k j i).todo.length ≤ 1000000 := by have := (fullB_len (n := k) (d := j) (a := i)).1; have := hD1.out; have := hA1.out; omega
            clear hr hbv hbr
            by_cases hlt : i < A
            · have ij : IntOK (1000 + (i : Int)) := ⟨by have := hA1.out; have := hD1.out; omega, by have := hA1.out; have := hD1.out; omega⟩
              have hjD : (i : Int) < (A : Int) := by omega
              have hj0 : (0 : Int) ≤ (i : Int) := by omega
              have hj80 : i < 80 := by have := hA1.out; have := hD1.out; omega
              have hN13 : changeN (fullB k j i) ⟨true, oneT (1000 + (i : Int))⟩ = 0 := (full_add (n := k) (d := j) (k := i) (by have := hA1.out; omega)).1
              have hO13 : changeO (fullB k j i) ⟨true, oneT (1000 + (i : Int))⟩ = fullB k j (i + 1) := (full_add (n := k) (d := j) (k := i) (by have := hA1.out; omega)).2
              go_upto_region 18 with fail
              obtain ⟨V, hV⟩ : ∃ V : Value, V = .agg #[.slice ga (fullB k j i).facts.length gc, .int .i64 (fullB k j i).ver, .bool (fullB k j i).on, .slice ua (fullB k j i).todo.length uc] := ⟨_, rfl⟩
              obtain ⟨D1, hD1⟩ : ∃ D : Value → World → Prop, D = fun u w' => ∃ a c, u = .slice a 2 c ∧ Seq cellE (fun x => wr.heap.size ≤ x) w' (.slice a 2 c) (oneT (1000 + (i : Int))) := ⟨_, rfl⟩
              obtain ⟨D2, hD2⟩ : ∃ D : Value → World → Prop, D = fun u w' => ∃ a c, u = .agg #[.bool true, .slice a 2 c] ∧ Seq cellE (fun x => wr.heap.size ≤ x) w' (.slice a 2 c) (oneT (1000 + (i : Int))) := ⟨_, rfl⟩
              obtain ⟨D3, hD3⟩ : ∃ D : Value → World → Prop, D = fun u w' => ∃ o, u = .tuple #[o, .int .i64 0] ∧ BasV (fun x => x ≠ B) w' o ((fullB k j (i + 1))) := ⟨_, rfl⟩
              refine wp_region_noPanic ?_
              refine wp_region_held_drew (S := fun _ => True) (by kernel_rfl) trivial (fun hHeld => ?_)
              clear hHeld
              refine wpAnyH_flow' (f := 3) [0, 1, 2, 3, 4, 5, 6] [67, 68, 69, 70, 71, 72, 66] [[], [], [1], [2], [3], [0, 4], [5]] [fun v _ => v = V, fun v _ => v = .int .i64 (i : Int), fun v _ => v = .int .i64 (1000 + (i : Int)), D1, D2, D3, D3]
                (by kernel_rfl) rfl (by decide) [u67, u68, u69, u70, u71, u72, u66] rfl (by rfl) ?_ (fun _ _ => trivial) ?_ ?_
              · intro D hD v y z hDv hyz
                simp only [List.mem_cons, List.not_mem_nil, or_false] at hD
                rcases hD with rfl | rfl | rfl | rfl | rfl | rfl | rfl
                · exact hDv
                · exact hDv
                · exact hDv
                · rw [hD1] at hDv ⊢
                  obtain ⟨a, c, e, h⟩ := hDv
                  exact ⟨a, c, e, h.at hyz⟩
                · rw [hD2] at hDv ⊢
                  obtain ⟨a, c, e, h⟩ := hDv
                  exact ⟨a, c, e, h.at hyz⟩
                · rw [hD3] at hDv ⊢
                  obtain ⟨o, e, h⟩ := hDv
                  exact ⟨o, e, h.at hyz⟩
                · rw [hD3] at hDv ⊢
                  obtain ⟨o, e, h⟩ := hDv
                  exact ⟨o, e, h.at hyz⟩
              · intro k hk vs y hvs hby0 hdeps
                have hby : Below wr.heap.size wr y := Below.trans (Seq.way : Below wr.heap.size wr wr.drew) hby0
                have hzy := hby.size
                obtain ⟨e0, e1, e2, e3, -, -, -, -⟩ := (Hq hby).out
                obtain ⟨v0, v1, v2, v3, v4, v5, v6, rfl⟩ : ∃ v0 v1 v2 v3 v4 v5 v6, vs = [v0, v1, v2, v3, v4, v5, v6] := by
                  match vs, hvs with
                  | [v0, v1, v2, v3, v4, v5, v6], _ => exact ⟨v0, v1, v2, v3, v4, v5, v6, rfl⟩
                simp only [putsL, Act.put, List.setIfInBounds_toArray, List.set_cons_zero, List.set_cons_succ]
                rcases (show k = 0 ∨ k = 1 ∨ k = 2 ∨ k = 3 ∨ k = 4 ∨ k = 5 ∨ k = 6 by simp at hk; omega) with rfl | rfl | rfl | rfl | rfl | rfl | rfl
                · refine ⟨_, rfl, by rfl, fun K hK => ?_⟩
                  go_simp
                  exact hK.out _ _ (Below.refl _ _) (holds_of rfl hV.symm)
                · refine ⟨_, rfl, by rfl, fun K hK => ?_⟩
                  go_simp
                  exact hK.out _ _ (Below.refl _ _) (holds_of rfl rfl)
                · have hd1 := hdeps 1 (by simp) v1 rfl _ rfl
                  subst hd1
                  refine ⟨_, rfl, by rfl, fun K hK => ?_⟩
                  go_simp
                  exact hK.out _ _ (Below.refl _ _) (holds_of rfl (congrArg (Value.int .i64) (IntWalk.i64_in (1000 + (i : Int)) (by omega))))
                · have hd := hdeps 2 (by simp) v2 rfl _ rfl
                  subst hd
                  refine ⟨_, rfl, by rfl, fun K hK => ?_⟩
                  go_simp
                  refine (one_spec ij).mono ?_
                  rintro e z ⟨v, rfl, hbz, hp⟩
                  obtain ⟨a5, c5, rfl⟩ := hp.shape
                  refine hK.out _ _ hbz (holds_of (D := D1) rfl ?_)
                  rw [hD1]
                  exact ⟨a5, c5, rfl, hp.mono (fun x hx _ => by omega) fun _ _ _ => rfl⟩
                · have hd := hdeps 3 (by simp) v3 rfl D1 rfl
                  rw [hD1] at hd
                  obtain ⟨a5, c5, rfl, hp⟩ := hd
                  have Hp := Lib.hid hp
                  clear hp
                  refine ⟨_, rfl, by rfl, fun K hK => ?_⟩
                  go_simp
                  refine hK.out _ _ (Below.refl _ _) (holds_of (D := D2) rfl ?_)
                  rw [hD2]
                  exact ⟨a5, c5, rfl, Hp.out⟩
                · have hd0 := hdeps 0 (by simp) v0 rfl _ rfl
                  rw [hV] at hd0
                  subst hd0
                  have hd := hdeps 4 (by simp) v4 rfl D2 rfl
                  rw [hD2] at hd
                  obtain ⟨a5, c5, rfl, hp⟩ := hd
                  have Hp := Lib.hid hp
                  clear hp
                  refine ⟨_, rfl, by rfl, fun K hK => ?_⟩
                  go_simp
                  refine (ChangeP_spec (S := fun x => x ≠ B) (b := (fullB k j i)) (c := ⟨true, oneT (1000 + (i : Int))⟩) (HBV.out.at hby) ⟨a5, c5, rfl, Hp.out.mono (fun x hx _ => by omega) fun _ _ _ => rfl⟩ h1l).mono ?_
                  rintro e z ⟨o, rfl, hbz, ho⟩
                  rw [hN13]
                  refine hK.out _ _ hbz (holds_of (D := D3) rfl ?_)
                  rw [hD3]
                  rw [hO13] at ho
                  exact ⟨o, rfl, ho.mono (fun x hx _ => hx.elim id fun h => by omega) fun _ _ _ => rfl⟩
                · have hd := hdeps 5 (by simp) v5 rfl D3 rfl
                  have hd' := hd
                  rw [hD3] at hd'
                  obtain ⟨o, rfl, -⟩ := hd'
                  refine ⟨_, rfl, by rfl, fun K hK => ?_⟩
                  go_simp
                  exact hK.out _ _ (Below.refl _ _) (holds_of (D := D3) rfl hd)
              intro vs y hvs hby0 hhas
              have hby : Below wr.heap.size wr y := Below.trans (Seq.way : Below wr.heap.size wr wr.drew) hby0
              have hzy := hby.size
              obtain ⟨v0, v1, v2, v3, v4, v5, v6, rfl⟩ : ∃ v0 v1 v2 v3 v4 v5 v6, vs = [v0, v1, v2, v3, v4, v5, v6] := by
                match vs, hvs with
                | [v0, v1, v2, v3, v4, v5, v6], _ => exact ⟨v0, v1, v2, v3, v4, v5, v6, rfl⟩
              have x4 := hhas 6 v6 rfl D3 rfl
              rw [hD3] at x4
              obtain ⟨o, rfl, x4⟩ := x4
              obtain ⟨e0, e1, e2, e3, f0, f1, f2, f3⟩ := (Hq hby).out
              have Hx5 := Lib.hid x4
              obtain ⟨x60, x61, x62, x63, rfl⟩ := x4.shape
              clear x4 hhas hvs hD1 hD2 hD3 hby0 D1 D2 D3
              simp only [putsL, Act.put, List.setIfInBounds_toArray, List.set_cons_zero, List.set_cons_succ]
              refine wpAnyH_take1 (i := 7) (oi := _) (v := ?_) (by kernel_rfl) rfl (by kernel_rfl) (fun _ _ _ h => h) (Or.inl ⟨by rfl, ?_⟩) trivial ?_
              rotate_left 1
              · intro w hSw; go_simp; (with_reducible rfl)
              (try simp only [Act.put, List.getElem_toArray, List.getElem_cons_zero, List.getElem_cons_succ, List.setIfInBounds_toArray, List.set_cons_zero, List.set_cons_succ])
              refine wpAnyH_take1 (i := 8) (oi := _) (v := ?_) (by kernel_rfl) rfl (by kernel_rfl) (fun _ _ _ h => h) (Or.inl ⟨by rfl, ?_⟩) trivial ?_
              rotate_left 1
              · intro w hSw; go_simp; (with_reducible rfl)
              (try simp only [Act.put, List.getElem_toArray, List.getElem_cons_zero, List.getElem_cons_succ, List.setIfInBounds_toArray, List.set_cons_zero, List.set_cons_succ])
              refine wpAnyH_one (i := 9) (by kernel_rfl) rfl (by rfl) fun K hK => ?_
              go_simp
              refine hK.out _ _ trivial fun hHeld => ?_
              clear hK K hHeld
              (try simp only [Act.put, List.getElem_toArray, List.getElem_cons_zero, List.getElem_cons_succ, List.setIfInBounds_toArray, List.set_cons_zero, List.set_cons_succ])
              refine wpAnyH_done (by kernel_rfl) ?_ _
              refine NoPanic.normal ?_
              go_wp2_with fail
              go_roundw
              case rel => exact ⟨i + 1, hlt, by go_num, ⟨x60, x61, x62, x63, (rowTo HR.out hby).set4, Hx5.out.mono (fun _ h _ => h) fun x hx _ => heap_set4 hx⟩, below_set4 (below_step hby Hbr.out) hBw⟩
              case measure => simp [intOf]; omega
            · obtain rfl : i = A := by omega
              clear h1l Hq HR HBV l5 hzr
              have hnk : (fullB k j i).facts.length = k := (fullB_len (n := k) (d := j) (a := i)).2
              have htd : (fullB k j i).todo.length = j + i := (fullB_len (n := k) (d := j) (a := i)).1
              have hrow := Lib.hid (fullB_row (n := k) (d := j) (a := i) (by have := hN1.out; omega))
              have hb1' : 480 ≤ k ∧ k ≤ 512 := hN1.out
              have hb2' : j < 40 := hD1.out
              have hb3' : i < 80 := hA1.out
              obtain ⟨ga, gc, ua, uc, hr0, hbv0⟩ := HBX.out
              have hr : Row 25 wr B [.slice ga k gc, .int .i64 0, .bool true, .slice ua (j + i) uc] := by rw [hnk, htd] at hr0; exact hr0
              have hbv : BasV (fun x => x ≠ B) wr (.agg #[.slice ga k gc, .int .i64 0, .bool true, .slice ua (j + i) uc]) (fullB k j i) := by rw [hnk, htd] at hbv0; exact hbv0
              obtain ⟨c0, c1, c2, c3, d0, d1, d2, d3⟩ := hr.four
              have Hq := fun {w' : World} (h : Below wr.heap.size wr w') => Lib.hid ((rowTo hr h).four)
              have HBV := Lib.hid (show BasV (fun _ => True) wr _ (fullB k j i) from hbv.mono (fun _ _ _ => trivial) fun _ _ _ => rfl)
              have lB := hr.lt
              have Hnk := Lib.hid hnk
              have Htd := Lib.hid htd
              clear hnk htd hr0 hbv0
              clear hbv hr
              go_wp2_with fail
              refine (CommitP_spec HBV.out hrow.out (show (0 : Int) ≤ 0 by omega) (show (0 : Int) ≤ _ by omega)).mono ?_
              rintro e w5 ⟨o5, x5, y5, rfl, hb5, ho5, hx5, hy5⟩
              have H5 := Lib.hid hb5
              have Hw5 := Lib.hid (below_step hb5 Hbr.out)
              have HBV5 := Lib.hid (HBV.out.at hb5)
              by_cases hfit : k - j + i ≤ 512
              · have hcm := full_fit hb1'.1 hb1'.2 hb2' hb3' hfit
                rw [hcm.1] at ho5
                rw [hcm.2.1]
                obtain ⟨pa, pb, pc, pd, rfl⟩ := ho5.shape
                obtain ⟨xa, xb, rfl⟩ := hx5.shape
                obtain ⟨ya, yb, rfl⟩ := hy5.shape
                rw [hcm.2.2.1, hcm.2.2.2.1]
                dsimp only
                rw [hcm.2.2.2.2]
                clear hcm ho5 hx5 hy5 hb5 c0 c1 c2 c3 d0 d1 d2 d3
                obtain ⟨c0, c1, c2, c3, d0, d1, d2, d3⟩ := (Hq H5.out).out
                have lB5 : B < w5.heap.size := by have := H5.out.size; omega
                have g1 : ((k - j + i : Nat) : Int) = (k : Int) - j + i := by omega
                have g2 : ((j + i : Nat) : Int) = (j : Int) + i := by omega
                have g3 : ¬ (512 : Int) < (k : Int) - j + i := by omega
                go_wp2_with fail
                go_ret
                exact ⟨rfl, below_step Seq.way Hw5.out⟩
              · have hcm := full_big hb1'.1 hb1'.2 hb2' hb3' (by omega)
                rw [hcm.1] at ho5
                rw [hcm.2.1]
                rw [hcm.2.2.1] at hx5
                rw [hcm.2.2.2.1] at hy5
                have Ho5 := Lib.hid (show BasV (fun _ => True) w5 o5 (fullB k j i) from ho5.mono (fun _ _ _ => trivial) fun _ _ _ => rfl)
                obtain ⟨pa, pb, pc, pd, rfl⟩ := ho5.shape
                obtain ⟨xa, xb, rfl⟩ := hx5.shape
                obtain ⟨ya, yb, rfl⟩ := hy5.shape
                have HN5 := Lib.hid hcm.2.2.2.2
                rw [Hnk.out, Htd.out] at Ho5 ⊢
                rw [show (fullB k j i).ver = 0 from rfl, show (fullB k j i).on = true from rfl]
                have Ho5 := Lib.hid (show BasV (fun _ => True) w5 (.agg #[.slice pa k pb, .int .i64 0, .bool true, .slice pc (j + i) pd]) (fullB k j i) from Ho5.out)
                clear hcm ho5 hx5 hy5 hb5 c0 c1 c2 c3 d0 d1 d2 d3
                obtain ⟨W6, hW6⟩ : ∃ W, W = w5.alloc (.cells #[.slice pa k pb, .int .i64 0, .bool true, .slice pc (j + i) pd] 25) := ⟨_, rfl⟩
                have hr6 : Row 25 W6 w5.heap.size [.slice pa k pb, .int .i64 0, .bool true, .slice pc (j + i) pd] := by rw [hW6]; exact Row.new w5 [_, _, _, _] _ rfl
                have HS6 := Lib.hid (show Below w5.heap.size w5 W6 by rw [hW6]; exact Seq.way)
                have HW6 := Lib.hid hW6
                have z6 : w5.heap.size < W6.heap.size := hr6.lt
                clear hW6 hr6
                obtain ⟨c0, c1, c2, c3, d0, d1, d2, d3⟩ := (Hq H5.out).out
                have lB5 : B < w5.heap.size := by have := H5.out.size; omega
                have g2 : ((j + i : Nat) : Int) = (j : Int) + i := by omega
                have g3 : (512 : Int) < (k : Int) - j + i := by omega
                go_wp2_with fail
                rw [← HW6.out]
                refine (SameB_spec (HBV5.out.at HS6.out) (Ho5.out.at HS6.out)).mono ?_
                rintro e w7 ⟨rfl, hb7⟩
                have H67 := Lib.hid hb7
                have H57 := Lib.hid (below_step hb7 HS6.out)
                have HW7 := Lib.hid (below_step H57.out Hw5.out)
                clear hb7 c0 c1 c2 c3 d0 d1 d2 d3
                obtain ⟨c0, c1, c2, c3, d0, d1, d2, d3⟩ := (Hq (below_step H57.out H5.out)).out
                have lB7 : B < w7.heap.size := by have := H57.out.size; omega
                go_wp2_with fail
                refine (NowP_spec (HBV5.out.at H57.out) hrow.out).mono ?_
                rintro e w8 ⟨v8, rfl, hb8, hs8⟩
                obtain ⟨na, nc, rfl⟩ := hs8.shape
                rw [HN5.out]
                have HZ := Lib.hid (below_step hb8 HW7.out)
                clear hb8 hs8 c0 c1 c2 c3 d0 d1 d2 d3
                go_wp2_with fail
                go_ret
                exact ⟨ret_bool (by simp), HZ.out⟩
end Go.Proofs.Yteefdmpaclnaiaa
