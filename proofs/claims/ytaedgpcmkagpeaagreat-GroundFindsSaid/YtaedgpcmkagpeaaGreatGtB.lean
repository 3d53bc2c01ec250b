/-
  Layer 16, the program: ground.Cut.
-/
import Derived.Test.YtaedgpcmkagpeaaGreatGtA
namespace Go.Proofs.YtaedgpcmkagpeaaGreat
open Go Go.RowKit

theorem markL_nil (N : Nat) : markL N [] = List.replicate N 0 := by
  unfold markL
  rw [List.eq_replicate_iff]
  refine ⟨by simp, fun b hb => ?_⟩
  obtain ⟨k, _, rfl⟩ := List.mem_map.1 hb
  simp
def atomAt (g : Prog) (j : Nat) : List Cell := g.atoms[j]?.getD []
def anewV (bs : Nat) : Value := .func (.func 64) #[] #[.pointer (some ⟨bs, 0, none⟩)]
/-- What the closure anew reads. -/
structure AnC (X : World) (ls : List Nat) (N bs Nb : Nat) : Prop where
  c : X.cell? ⟨bs, 0, none⟩ = some (.slice (some ⟨Nb, 0, none⟩) N N)
  l : bs < X.heap.size
  n : Nb < X.heap.size
  r : RowI 3 X Nb (numK ls N N)
theorem AnC.at {X Y : World} {ls : List Nat} {N bs Nb : Nat} (h : AnC X ls N bs Nb) (hb : Below X.heap.size X Y) : AnC Y ls N bs Nb :=
  ⟨(hb.cell (p := ⟨bs, 0, none⟩) h.l).trans h.c, Nat.lt_of_lt_of_le h.l hb.size, Nat.lt_of_lt_of_le h.n hb.size, h.r.below hb h.n⟩
theorem numK_get {ls : List Nat} {N k j : Nat} (hj : j < N) : (numK ls N k)[j]'(by rw [numK_len]; exact hj) = if j < k then plcN ls (j : Int) + 1 else if j ∈ ls then 1 else 0 := numK_at _

set_option maxHeartbeats 6400000 in
set_option maxRecDepth 100000 in
theorem CutP_spec {S : Nat → Prop} {w : World} {v : Value} {g : Prog} {a : Int} (hg : ProgV S w v g) (hR : RightG g) (hn : g.atoms.length ≤ 100000) (hrl : g.rules.length ≤ 100000) :
    Calls Tryz.prog 24 #[v, .int .i64 a] w (Ret (fun o w' => ProgV (Fr S w) w' o (cutG g a)) w) := by
  obtain ⟨va, vr, rfl, hA, hRR⟩ := hg
  have HA := Lib.hid hA.bnd
  have HRl := Lib.hid hRR.bnd
  obtain ⟨ra, rc, rfl⟩ := hRR.shape
  obtain ⟨aa, ac, rfl⟩ := hA.shape
  have HRg := Lib.hid hR
  clear hA hRR hR
  by_cases hin : 0 ≤ a ∧ a < (g.atoms.length : Int)
  rotate_left 1
  · have hcg := Lib.hid (show cutG g a = ⟨[], []⟩ by unfold cutG; rw [if_neg hin])
    obtain ⟨W, hW⟩ : ∃ W, W = (w.alloc (.cells #[.slice aa g.atoms.length ac, .slice ra g.rules.length rc] 26)).alloc (.cells #[.slice none 0 0, .slice none 0 0] 26) := ⟨_, rfl⟩
    have HB := Lib.hid (show Below w.heap.size w W by rw [hW]; exact Seq.way)
    have HZ := Lib.hid (show Row 26 W (w.heap.size + 1) [.slice none 0 0, .slice none 0 0] by rw [hW]; exact Row.new _ [_, _] _ (by simp))
    have s0 := HZ.out.cell (j := 0) (by simp)
    have s1 := HZ.out.cell (j := 1) (by simp)
    simp only [List.getElem_cons_zero, List.getElem_cons_succ] at s0 s1
    have S0 := Lib.hid s0
    have S1 := Lib.hid s1
    have HW := Lib.hid hW
    clear s0 s1 hW
    by_cases ha0 : a < 0
    · clear hin
      go_enter Tryz.func24, Tryz.ntmps24
      go_wp2_with fail
      rw [← HW.out]
      have s0 := S0.out
      have s1 := S1.out
      refine bodyPost_ret (v := .agg #[.slice none 0 0, .slice none 0 0]) (by simp [results, Tryz.results24, go_sem, s0, s1]) rfl ?_
      refine ⟨_, rfl, HB.out, ?_⟩
      rw [hcg.out]
      exact ⟨_, _, rfl, Seq.nil _ _ _, Seq.nil _ _ _⟩
    · have ha1 : a ≥ (g.atoms.length : Int) := by omega
      clear hin
      go_enter Tryz.func24, Tryz.ntmps24
      go_wp2_with fail
      rw [← HW.out]
      have s0 := S0.out
      have s1 := S1.out
      refine bodyPost_ret (v := .agg #[.slice none 0 0, .slice none 0 0]) (by simp [results, Tryz.results24, go_sem, s0, s1]) rfl ?_
      refine ⟨_, rfl, HB.out, ?_⟩
      rw [hcg.out]
      exact ⟨_, _, rfl, Seq.nil _ _ _, Seq.nil _ _ _⟩
  obtain ⟨n, rfl⟩ := Int.eq_ofNat_of_zero_le hin.1
  have hnN : n < g.atoms.length := by omega
  have hcg := Lib.hid (show cutG g (n : Int) = onlyG g (leadsG g n) by unfold cutG; rw [if_pos hin]; rfl)
  have ha0 : ¬ ((n : Int) < 0) := by omega
  have ha2 : ¬ ((n : Int) ≥ (g.atoms.length : Int)) := by omega
  have hmk := run_make_row' (P := Tryz.prog) 36 3 (.int .i64 0) 8 Tryz.underlying36 infoInt rfl .i64 .i64 g.atoms.length (by omega) (by omega)
  obtain ⟨W, hW⟩ : ∃ W, W = ((((w.alloc (.cells #[.slice aa g.atoms.length ac, .slice ra g.rules.length rc] 26)).alloc (.cells #[.slice none 0 0, .slice none 0 0] 26)).alloc (.cells (madeCells #[.int .i64 0] g.atoms.length) 3)).alloc
      (.cells #[.slice (some ⟨w.heap.size + 1 + 1, 0, none⟩) g.atoms.length g.atoms.length] 36)).alloc (.cells #[markV (w.heap.size + 1 + 1 + 1) w.heap.size (w.heap.size + 1 + 1 + 1 + 1)] 79) := ⟨_, rfl⟩
  have HB := Lib.hid (show Below w.heap.size w W by rw [hW]; exact Seq.way)
  have hzW1 : W.heap.size ≤ w.heap.size + 5 := by rw [hW]; simp
  have hzW2 : w.heap.size + 5 ≤ W.heap.size := by rw [hW]; simp
  have HP := Lib.hid (show Row 26 W w.heap.size [.slice aa g.atoms.length ac, .slice ra g.rules.length rc] by rw [hW]; exact ((((Row.new w [_, _] _ rfl).alloc _).alloc _).alloc _).alloc _)
  have HZ := Lib.hid (show Row 26 W (w.heap.size + 1) [.slice none 0 0, .slice none 0 0] by rw [hW]; exact (((Row.new _ [_, _] _ (by simp)).alloc _).alloc _).alloc _)
  have HNb := Lib.hid (show RowI 3 W (w.heap.size + 1 + 1) (markL g.atoms.length []) by rw [hW, markL_nil]; exact ((RowI.made _ _ _ (by simp)).alloc _).alloc _)
  have HS := Lib.hid (show Row 36 W (w.heap.size + 1 + 1 + 1) [.slice (some ⟨w.heap.size + 1 + 1, 0, none⟩) g.atoms.length g.atoms.length] by rw [hW]; exact (Row.new _ [_] _ (by simp)).alloc _)
  have HF := Lib.hid (show Row 79 W (w.heap.size + 1 + 1 + 1 + 1) [markV (w.heap.size + 1 + 1 + 1) w.heap.size (w.heap.size + 1 + 1 + 1 + 1)] by rw [hW]; exact Row.new _ [_] _ (by simp))
  have HMk := Lib.hid (show MkM W g (w.heap.size + 1 + 1 + 1) w.heap.size (w.heap.size + 1 + 1 + 1 + 1) (w.heap.size + 1 + 1) aa ac ra rc from
    ⟨HS.out.cell (j := 0) (by simp), HS.out.lt, by omega, HP.out.cell (j := 0) (by simp), HP.out.cell (j := 1) (by simp), HP.out.lt, by omega, HF.out.cell (j := 0) (by simp), HF.out.lt, by omega, by omega,
      (HA.out.at HB.out).mono (fun b h _ => by have := h.2; omega) fun _ _ _ => rfl, (HRl.out.at HB.out).mono (fun b h _ => by have := h.2; omega) fun _ _ _ => rfl⟩)
  have HW := Lib.hid hW
  clear hW hin
  go_enter Tryz.func24, Tryz.ntmps24
  go_upto_region 6 with fail
  have hWe := HW.out
  unfold markV at hWe
  rw [← hWe]
  clear hmk hWe
  have cf := HMk.out.cf
  have lf := HMk.out.lf
  unfold markV at cf
  go_wp2_with fail
  refine (mark_spec HRg.out (by omega) (by omega) g.atoms.length (w := W) (n := n) (s := []) hnN List.nodup_nil (by simp) (by simp) HNb.out HMk.out).mono ?_
  rintro e w1 ⟨rfl, hg1, t, hv1, hm1⟩
  obtain ⟨ls, hls⟩ : ∃ ls, ls = leadsG g n := ⟨_, rfl⟩
  have hsub := leads_sub g n
  have hlsl := leads_len g n
  have hcl := markL_congr (N := g.atoms.length) fun x => vis_leads HRg.out hnN hv1 (x := x)
  rw [← hls] at hsub hlsl hcl hcg
  rw [hcl, ← numK_zero] at hm1
  have HM1 := Lib.hid hm1
  have Hsrt := Lib.hid hsub.srt
  have Hlt := Lib.hid hsub.lt
  have G1 := Lib.hid hg1
  have hz1 := hg1.size
  have BW1 := Lib.hid (HB.out.trans (gr_below hg1 (B := w.heap.size) (by omega) (by omega)))
  have HP1 := Lib.hid (HP.out.at (hg1.block _ HP.out.lt (by simp <;> omega)))
  have HZ1 := Lib.hid (HZ.out.at (hg1.block _ HZ.out.lt (by simp)))
  have HS1 := Lib.hid (HS.out.at (hg1.block _ HS.out.lt (by simp)))
  clear hg1 hv1 hm1 hcl hsub hls cf lf
  obtain ⟨W1, hW1⟩ : ∃ W1, W1 = w1.alloc (.cells #[.slice none 0 0, .slice none 0 0] 26) := ⟨_, rfl⟩
  have BA := Lib.hid (show Below w1.heap.size w1 W1 by rw [hW1]; exact Seq.way)
  have hz21 : W1.heap.size ≤ w1.heap.size + 1 := by rw [hW1]; simp
  have hz22 : w1.heap.size + 1 ≤ W1.heap.size := by rw [hW1]; simp
  have HO0 := Lib.hid (show Row 26 W1 w1.heap.size [.slice none 0 0, .slice none 0 0] by rw [hW1]; exact Row.new _ [_, _] _ rfl)
  have HP2 := Lib.hid (rowTo HP1.out BA.out)
  have HZ2 := Lib.hid (rowTo HZ1.out BA.out)
  have HS2 := Lib.hid (rowTo HS1.out BA.out)
  have HM2 := Lib.hid (HM1.out.below BA.out (show w.heap.size + 1 + 1 < w1.heap.size by omega))
  have BW2 := Lib.hid (below_step BA.out BW1.out)
  have HW1 := Lib.hid hW1
  clear hW1
  go_upto_region 8 with fail
  rw [← HW1.out]
  have c5 := HS2.out.cell (j := 0) (by simp)
  have l5 := HS2.out.lt
  simp only [List.getElem_cons_zero] at c5
  go_wp2_with fail
  clear c5 l5
  go_loopw [33] (fun i wr => ∃ (k : Nat) (va : Value), i = .int .i64 k ∧ k ≤ g.atoms.length ∧ Hid (Row 26 wr w1.heap.size [va, .slice none 0 0]) ∧ Hid (Own (seqE cellE) (fun b => S b ∧ b < w.heap.size) W1.heap.size 33 wr va ((ls.filter fun j => decide (j < k)).map (atomAt g))) ∧ Hid (RowI 3 wr (w.heap.size + 1 + 1) (numK ls g.atoms.length k)) ∧
    Hid (Row 26 wr w.heap.size [.slice aa g.atoms.length ac, .slice ra g.rules.length rc]) ∧ Hid (Row 26 wr (w.heap.size + 1) [.slice none 0 0, .slice none 0 0]) ∧ Hid (Row 36 wr (w.heap.size + 1 + 1 + 1) [.slice (some ⟨w.heap.size + 1 + 1, 0, none⟩) g.atoms.length g.atoms.length]) ∧ Hid (Below w.heap.size w wr) ∧ W1.heap.size ≤ wr.heap.size) (fun i _ => g.atoms.length - (intOf i).toNat)
  case atStart => exact ⟨0, _, rfl, Nat.zero_le _, HO0, Lib.hid (by rw [List.filter_eq_nil_iff.2 (fun x _ => by simp)]; exact Own.nil _ _ _ _ _), HM2, HP2, HZ2, HS2, BW2, Nat.le_refl _⟩
  case round =>
    obtain ⟨k, vo, rfl, hk, hrow, hO, hnum, HPr, HZr, HSr, hbw, hzr⟩ := hrel
    by_cases hlt : k < g.atoms.length
    · have d0 := hnum.out.cell (j := k) (by rw [numK_len]; exact hlt)
      rw [numK_get hlt, if_neg (Nat.lt_irrefl k)] at d0
      have hkl : (k : Int) < (g.atoms.length : Int) := by omega
      have hk0 : (0 : Int) ≤ (k : Int) := by omega
      by_cases hin : k ∈ ls
      · rw [if_pos hin] at d0
        have hfl := Lib.hid (filter_lt_snoc Hsrt.out hin)
        have hpl := Lib.hid (plcN_lt Hsrt.out hin)
        obtain ⟨_, _, ee, -, -, -, -, y5⟩ := (HA.out.at hbw.out)
        simp only [Value.slice.injEq, true_and] at ee
        obtain ⟨rfl, rfl⟩ := ee
        obtain ⟨b2, off2, p1, n1, rfl, ⟨-, hbW2⟩, hb2, hc2, hX⟩ := y5.seq hlt
        have HX := Lib.hid hX
        have hat := Lib.hid (show atomAt g k = g.atoms[k] by unfold atomAt; rw [List.getElem?_eq_getElem hlt]; rfl)
        have hQl : ((ls.filter fun j => decide (j < k)).map (atomAt g)).length ≤ 100000 := by
          rw [List.length_map]
          exact Nat.le_trans (List.length_filter_le _ _) (by omega)
        have hQe := Lib.hid (show ((ls.filter fun j => decide (j < k)).map (atomAt g)).length = (ls.filter fun j => decide (j < k)).length from List.length_map _)
        have hsn := Lib.hid (show (ls.filter fun j => decide (j < k + 1)).map (atomAt g) = (ls.filter fun j => decide (j < k)).map (atomAt g) ++ [g.atoms[k]] by
          rw [hfl.out, List.map_append, ← hat.out]; rfl)
        obtain ⟨Q, hQ⟩ : ∃ Q, Q = (ls.filter fun j => decide (j < k)).map (atomAt g) := ⟨_, rfl⟩
        rw [← hQ] at hO hQl hQe hsn
        obtain ⟨x, hx⟩ : ∃ x, x = g.atoms[k] := ⟨_, rfl⟩
        rw [← hx] at hc2 HX hsn
        have hpq := Lib.hid (show plcN ls (k : Int) + 1 = ((Q.length + 1 : Nat) : Int) by rw [hpl.out, ← hQe.out]; rfl)
        obtain ⟨oa, oc, rfl, -, -⟩ := hO.out.shape
        have lP := HPr.out.lt
        have lO := hrow.out.lt
        have e0 := HPr.out.cell (j := 0) (by simp)
        have o0 := hrow.out.cell (j := 0) (by simp)
        simp only [List.getElem_cons_zero] at e0 o0
        clear hX hx y5 hQ hin hfl hpl hQe hat
        go_upto_region 12 with fail
        have Hkeep := fun {Wk : World} (hW : Below W1.heap.size wr Wk) => Lib.hid (show Wk.cell? ⟨w1.heap.size, 0, none⟩ = some (.slice oa Q.length oc) ∧ Wk.cell? ⟨w.heap.size, 0, none⟩ = some (.slice (some ⟨b2, off2, none⟩) g.atoms.length ac) ∧ Wk.cell? ⟨b2, off2 + k, none⟩ = some (.slice p1 x.length n1) from ⟨(hW.cell (p := ⟨w1.heap.size, 0, none⟩) (show w1.heap.size < W1.heap.size by omega)).trans o0, (hW.cell (p := ⟨w.heap.size, 0, none⟩) (show w.heap.size < W1.heap.size by omega)).trans e0, (hW.cell (p := ⟨b2, off2 + k, none⟩) (show b2 < W1.heap.size by omega)).trans hc2⟩)
        (try simp only [List.append_eq, List.cons_append, List.nil_append])
        refine wp_region_noPanic ?_
        refine wp_region_last (S := fun w' => w'.cell? ⟨w1.heap.size, 0, none⟩ = some (.slice oa Q.length oc) ∧ w'.cell? ⟨w.heap.size, 0, none⟩ = some (.slice (some ⟨b2, off2, none⟩) g.atoms.length ac) ∧ w'.cell? ⟨b2, off2 + k, none⟩ = some (.slice p1 x.length n1)) (by kernel_rfl) ?_ rfl ?_ (fun hHeld => ?_)
        · kernel_rfl
        · exact (Hkeep (Below.drew (Below.refl _ _))).out
        dsimp only [List.dropLast]
        refine wpAnyH_take1 (i := 0) (oi := _) (v := ?_) (by kernel_rfl) rfl (by kernel_rfl) (fun _ _ _ h => h) (Or.inl ⟨by rfl, ?_⟩) (by assumption) ?_
        rotate_left 1
        · intro w hSw; (try dsimp only at hSw); go_simp; (with_reducible rfl)
        (try simp only [Act.put, List.getElem_toArray, List.getElem_cons_zero, List.setIfInBounds_toArray, List.set_cons_zero, List.set_cons_succ])
        refine wpAnyH_take1 (i := 1) (oi := _) (v := ?_) (by kernel_rfl) rfl (by kernel_rfl) (fun _ _ _ h => h) (Or.inl ⟨by rfl, ?_⟩) (by assumption) ?_
        rotate_left 1
        · intro w hSw; (try dsimp only at hSw); go_simp; (with_reducible rfl)
        (try simp only [Act.put, List.getElem_toArray, List.getElem_cons_zero, List.getElem_cons_succ, List.setIfInBounds_toArray, List.set_cons_zero, List.set_cons_succ])
        refine wpAnyH_take1 (i := 2) (oi := _) (v := ?_) (by kernel_rfl) rfl (by kernel_rfl) (fun _ _ _ h => h) (Or.inl ⟨by rfl, ?_⟩) (by assumption) ?_
        rotate_left 1
        · intro w hSw; (try dsimp only at hSw); go_simp; (with_reducible rfl)
        (try simp only [Act.put, List.getElem_toArray, List.getElem_cons_zero, List.getElem_cons_succ, List.setIfInBounds_toArray, List.set_cons_zero, List.set_cons_succ])
        refine wpAnyH_take1 (i := 3) (oi := _) (v := ?_) (by kernel_rfl) rfl (by kernel_rfl) (fun _ _ _ h => h) (Or.inl ⟨by rfl, ?_⟩) (by assumption) ?_
        rotate_left 1
        · intro w hSw; (try dsimp only at hSw); go_simp; (with_reducible rfl)
        (try simp only [Act.put, List.getElem_toArray, List.getElem_cons_zero, List.getElem_cons_succ, List.setIfInBounds_toArray, List.set_cons_zero, List.set_cons_succ])
        refine wpAnyH_take1 (i := 4) (oi := _) (v := ?_) (by kernel_rfl) rfl (by kernel_rfl) (fun _ _ _ h => h) (Or.inl ⟨by rfl, ?_⟩) (by assumption) ?_
        rotate_left 1
        · intro w hSw; (try dsimp only at hSw); go_simp; (with_reducible rfl)
        (try simp only [Act.put, List.getElem_toArray, List.getElem_cons_zero, List.getElem_cons_succ, List.setIfInBounds_toArray, List.set_cons_zero, List.set_cons_succ])
        refine wpAnyH_take1 (i := 5) (oi := _) (v := ?_) (by kernel_rfl) rfl (by kernel_rfl) (fun _ _ _ h => h) (Or.inl ⟨by rfl, ?_⟩) (by assumption) ?_
        rotate_left 1
        · intro w hSw; (try dsimp only at hSw); go_simp; (with_reducible rfl)
        (try simp only [Act.put, List.getElem_toArray, List.getElem_cons_zero, List.getElem_cons_succ, List.setIfInBounds_toArray, List.set_cons_zero, List.set_cons_succ])
        refine wpAnyH_take1 (i := 6) (oi := _) (v := ?_) (by kernel_rfl) rfl (by kernel_rfl) (fun _ _ _ h => h) (Or.inl ⟨by rfl, ?_⟩) (by assumption) ?_
        rotate_left 1
        · intro w hSw; (try dsimp only at hSw); go_simp; (with_reducible rfl)
        (try simp only [Act.put, List.getElem_toArray, List.getElem_cons_zero, List.getElem_cons_succ, List.setIfInBounds_toArray, List.set_cons_zero, List.set_cons_succ])
        refine wpAnyH_one (i := 7) (by kernel_rfl) rfl (by rfl) fun K hK => ?_
        go_simp
        (try dsimp only)
        clear hHeld
        refine hK.out _ _ (Hkeep (Below.mono (Seq.way : Below wr.heap.size wr _) hzr)).out fun hHeld => ?_
        clear hK K
        (try simp only [Act.put, List.getElem_toArray, List.getElem_cons_zero, List.getElem_cons_succ, List.setIfInBounds_toArray, List.set_cons_zero, List.set_cons_succ])
        refine wpAnyH_one (i := 8) (by kernel_rfl) rfl (by rfl) fun K hK => ?_
        refine (wp_app_seqK (E := cellE) (S := fun b => S b ∧ b < w.heap.size) (Sy := fun b => S b ∧ b < w.heap.size) (base := W1.heap.size) (wm := wr) (y := x) (vy := .slice p1 x.length n1) _ _ 23 rfl Tryz.underlying23 infoSeq rfl hO.out rfl Seq.way (HX.out.at Seq.way) (fun b h _ => ⟨h, .inl (by have := h.2; omega)⟩) ((Row.new _ [_] _ rfl).cell (j := 0) (by simp)) (by omega) hzr ?_)
        intro ao5 cap5 w5 hown5 hk5
        have H5 := Lib.hid hown5
        have B5 := Lib.hid (Below.trans (Below.mono (Seq.way : Below wr.heap.size wr _) hzr) hk5.below)
        have row5 := Lib.hid (hrow.out.at (B5.out.block _ (show w1.heap.size < W1.heap.size by omega)))
        have fz5 := row5.out.frozen 0
        have oc5 := row5.out.cell (j := 0) (by simp)
        simp only [List.getElem_cons_zero] at oc5
        clear hown5 hk5
        clear hHeld
        refine hK.out _ _ (Hkeep B5.out).out fun hHeld => ?_
        clear hK K
        (try simp only [Act.put, List.getElem_toArray, List.getElem_cons_zero, List.getElem_cons_succ, List.setIfInBounds_toArray, List.set_cons_zero, List.set_cons_succ])
        refine wpAnyH_take1 (i := 9) (oi := _) (v := ?_) (by kernel_rfl) rfl (by kernel_rfl) (fun _ _ _ h => h) (Or.inl ⟨by rfl, ?_⟩) (by assumption) ?_
        rotate_left 1
        · intro w hSw; (try dsimp only at hSw); go_simp; (with_reducible rfl)
        (try simp only [Act.put, List.getElem_toArray, List.getElem_cons_zero, List.getElem_cons_succ, List.setIfInBounds_toArray, List.set_cons_zero, List.set_cons_succ])
        refine wpAnyH_done (by kernel_rfl) ?_ _
        refine (show Oper.wp _ _ _ _ _ _ from ?_)
        clear hHeld
        go_simp
        refine NoPanic.normal ?_
        clear e0 o0 hc2 d0
        obtain ⟨w6, hw6⟩ : ∃ w6, w6 = w5.setCell ⟨w1.heap.size, 0, none⟩ (.slice ao5 (Q.length + 1) cap5) := ⟨_, rfl⟩
        have hz5 := B5.out.size
        have hz6 : w6.heap.size = w5.heap.size := by rw [hw6]; simp
        have hz61 : W1.heap.size ≤ w6.heap.size := by omega
        have BQ5 := B5.out
        have row6 := Lib.hid (show Row 26 w6 w1.heap.size [.slice ao5 (Q.length + 1) cap5, .slice none 0 0] by rw [hw6]; exact row5.out.set 0 _)
        have HP6 := Lib.hid (show Row 26 w6 w.heap.size _ by rw [hw6]; exact (HPr.out.at (BQ5.block _ (by omega))).setOther _ (by simp <;> omega))
        have HZ6 := Lib.hid (show Row 26 w6 (w.heap.size + 1) _ by rw [hw6]; exact (HZr.out.at (BQ5.block _ (by omega))).setOther _ (by simp <;> omega))
        have HS6 := Lib.hid (show Row 36 w6 (w.heap.size + 1 + 1 + 1) _ by rw [hw6]; exact (HSr.out.at (BQ5.block _ (by omega))).setOther _ (by simp <;> omega))
        have num6 := Lib.hid (show RowI 3 w6 (w.heap.size + 1 + 1) (numK ls g.atoms.length k) by rw [hw6]; exact Row.setOther (Row.at hnum.out (BQ5.block _ (by omega))) _ (by simp <;> omega))
        have H6 := Lib.hid (show Own (seqE cellE) (fun b => S b ∧ b < w.heap.size) W1.heap.size 33 w6 (.slice ao5 (Q.length + 1) cap5) (Q ++ [x]) by
          rw [hw6]; exact own_set (by simpa using H5.out) (by omega) fun b h => by have := h.2; omega)
        have BW6 := Lib.hid (show Below w.heap.size w w6 by
          rw [hw6]; exact (hbw.out.trans (BQ5.mono (by omega))).trans (gr_below (gr_set _ _ _ _) (by omega) (by omega)))
        rw [← hw6]
        have e1 := num6.out.cell (j := k) (by rw [numK_len]; exact hlt)
        have f1 := num6.out.frozen k
        have lN := Row.lt num6.out
        have lS := HS6.out.lt
        have lO6 := row6.out.lt
        have cS := HS6.out.cell (j := 0) (by simp)
        have cO := row6.out.cell (j := 0) (by simp)
        simp only [List.getElem_cons_zero] at cS cO
        clear hw6 fz5 oc5 BQ5 hz6
        go_wp2_with fail
        go_roundw
        case rel =>
          refine ⟨k + 1, .slice ao5 (Q.length + 1) cap5, by go_num, hlt, Lib.hid (row6.out.setOther _ (by simp <;> omega)), Lib.hid ?_, Lib.hid ?_, Lib.hid (HP6.out.setOther _ (by simp <;> omega)), Lib.hid (HZ6.out.setOther _ (by simp <;> omega)), Lib.hid (HS6.out.setOther _ (by simp <;> omega)), Lib.hid (BW6.out.trans (gr_below (gr_set _ _ _ _) (by omega) (by omega))), by simpa using hz61⟩
          · rw [hsn.out]
            exact own_set H6.out (by omega) fun b h => by have := h.2; omega
          · rw [← numK_set, hpq.out]
            have := num6.out.set k ((Q.length + 1 : Nat) : Int)
            simpa using this
        case measure => simp [intOf]; omega
      · rw [if_neg hin] at d0
        have hfl := Lib.hid (filter_lt_same hin)
        have hns := Lib.hid (numK_same (N := g.atoms.length) hin)
        clear hin
        go_wp2_with fail
        go_roundw
        case rel => exact ⟨k + 1, _, by go_num, hlt, hrow, Lib.hid (by rw [hfl.out]; exact hO.out), Lib.hid (by rw [← hns.out]; exact hnum.out), HPr, HZr, HSr, hbw, hzr⟩
        case measure => simp [intOf]; omega
    · obtain rfl : k = g.atoms.length := by omega
      have HOa := Lib.hid (show Own (seqE cellE) (fun b => S b ∧ b < w.heap.size) W1.heap.size 33 wr vo (ls.map (atomAt g)) by
        have := hO.out
        rwa [List.filter_eq_self.2 fun x hx => by simpa using Hlt.out x hx] at this)
      have hkl : ¬ (g.atoms.length : Int) < (g.atoms.length : Int) := by omega
      obtain ⟨wz, rfl⟩ : ∃ wz, wz = wr := ⟨_, rfl⟩
      have d1 := HPr.out.cell (j := 1) (by simp)
      simp only [List.getElem_cons_zero, List.getElem_cons_succ] at d1
      have lP := HPr.out.lt
      clear hO hlt hk
      go_wp2_with fail
      clear d1 lP
      go_loopw [61] (fun i wr => ∃ (k : Nat) (vb : Value), i = .int .i64 k ∧ k ≤ g.rules.length ∧ Hid (Row 26 wr w1.heap.size [vo, vb]) ∧ Hid (Own ruleE (fun b => wz.heap.size ≤ b) wz.heap.size 46 wr vb (onlyTo g ls k)) ∧ Hid (wz.grownBy wr (some w1.heap.size))) (fun i _ => g.rules.length - (intOf i).toNat)
      case atStart => exact ⟨0, _, rfl, Nat.zero_le _, hrow, Lib.hid (Own.nil _ _ _ _ _), Lib.hid (gr_refl _ _)⟩
      case round =>
        clear hkl
        obtain ⟨k, vb, rfl, hk, hrow2, hO, hgr2⟩ := hrel
        have hzr2 := hgr2.out.size
        have hzz : w1.heap.size + 1 ≤ wz.heap.size := by omega
        have hbw2 := Lib.hid (hbw.out.trans (gr_below hgr2.out (B := w.heap.size) (by omega) (by omega)))
        have HZr2 := Lib.hid (HZr.out.at (hgr2.out.block _ HZr.out.lt (by simp <;> omega)))
        have HSr2 := Lib.hid (HSr.out.at (hgr2.out.block _ HSr.out.lt (by simp <;> omega)))
        have HNr2 := Lib.hid (show RowI 3 wr (w.heap.size + 1 + 1) (numK ls g.atoms.length g.atoms.length) from Row.at hnum.out (hgr2.out.block _ (Row.lt hnum.out) (by simp <;> omega)))
        by_cases hlt : k < g.rules.length
        · obtain ⟨_, _, ee, -, -, -, -, x5⟩ := (HRl.out.at hbw2.out)
          simp only [Value.slice.injEq, true_and] at ee
          obtain ⟨rfl, rfl⟩ := ee
          obtain ⟨b, off, pa, pc, na, nc, rfl, -, hb, hc0, hc1, hc2, hiok, hX, hY⟩ := x5.rule hlt
          have HX := Lib.hid hX
          have HY := Lib.hid hY
          have hyes := Lib.hid (onlyTo_yes (g := g) (ls := ls) hlt)
          have hnot := Lib.hid (onlyTo_no (g := g) (ls := ls) hlt)
          have hmem := List.getElem_mem hlt
          obtain ⟨hlpos, hlneg⟩ := HRg.out.lits _ hmem
          have hPx := Lib.hid (HRg.out.pos _ hmem).1
          have hNx := Lib.hid (HRg.out.neg _ hmem).1
          obtain ⟨hh0, hh1⟩ := HRg.out.head _ hmem
          have hkl : (k : Int) < (g.rules.length : Int) := by omega
          have hk0 : (0 : Int) ≤ (k : Int) := by omega
          have hol := onlyTo_len g ls k
          obtain ⟨r, hr⟩ : ∃ r, r = g.rules[k] := ⟨_, rfl⟩
          rw [← hr] at hc0 hc1 hc2 HX HY hyes hnot hlpos hlneg hPx hNx hh0 hh1
          obtain ⟨h, hh⟩ := Int.eq_ofNat_of_zero_le hh0
          rw [hh] at hc0 hh1 hyes hnot
          have hOk := Lib.hid (show onlyR ls r = ⟨plcN ls (h : Int), r.pos.map (plcN ls), r.neg.map (plcN ls)⟩ by unfold onlyR; rw [hh])
          have hhN : h < g.atoms.length := by omega
          have hh3 : (h : Int) < (g.atoms.length : Int) := by omega
          have hh2 : (0 : Int) ≤ (h : Int) := by omega
          obtain ⟨O, hOe⟩ : ∃ O, O = onlyTo g ls k := ⟨_, rfl⟩
          rw [← hOe] at hO hol hyes hnot
          obtain ⟨oa, oc, rfl, -, -⟩ := hO.out.shape
          obtain ⟨wy, rfl⟩ : ∃ wy, wy = wr := ⟨_, rfl⟩
          obtain ⟨W2, hW2⟩ : ∃ W2, W2 = wy.alloc (.cells #[.int .i64 (h : Int), .slice pa r.pos.length pc, .slice na r.neg.length nc] 46) := ⟨_, rfl⟩
          have B1 := Lib.hid (show Below wy.heap.size wy W2 by rw [hW2]; exact Seq.way)
          have hz11 : W2.heap.size ≤ wy.heap.size + 1 := by rw [hW2]; simp
          have hz12 : wy.heap.size + 1 ≤ W2.heap.size := by rw [hW2]; simp
          have HQ := Lib.hid (show Row 46 W2 wy.heap.size [.int .i64 (h : Int), .slice pa r.pos.length pc, .slice na r.neg.length nc] by rw [hW2]; exact Row.new wy [_, _, _] _ rfl)
          have HAn := Lib.hid (show AnC W2 ls g.atoms.length (w.heap.size + 1 + 1 + 1) (w.heap.size + 1 + 1) from
            AnC.at ⟨HSr2.out.cell (j := 0) (by simp), HSr2.out.lt, Row.lt HNr2.out, HNr2.out⟩ B1.out)
          have HW2 := Lib.hid hW2
          clear hX hY hr x5 hW2 hOe hmem hh0 hh
          go_upto_region 19 with fail
          rw [← HW2.out]
          have f0 := HQ.out.cell (j := 0) (by simp)
          have f1 := HQ.out.cell (j := 1) (by simp)
          have f2 := HQ.out.cell (j := 2) (by simp)
          have lQ := HQ.out.lt
          have cS := HAn.out.c
          have lS := HAn.out.l
          have lN := HAn.out.n
          have cN := HAn.out.r.cell (j := h) (by rw [numK_len]; exact hhN)
          rw [numK_get hhN, if_pos hhN] at cN
          simp only [List.getElem_cons_zero, List.getElem_cons_succ] at f0 f1 f2
          have hbW1 := Lib.hid (below_step B1.out hbw2.out)
          cases hin : inLN ls (h : Int) with
          | false =>
            have hy' := Lib.hid (hnot.out hin)
            rw [plcN_out hin, show (-1 : Int) + 1 = 0 from rfl] at cN
            clear hin hyes hnot f1 f2 hc0 hc1 hc2
            go_wp2_with fail
            go_roundw
            case rel => exact ⟨k + 1, _, by go_num, hlt, Lib.hid (rowTo hrow2.out B1.out), Lib.hid (by rw [hy'.out]; exact hO.out.move B1.out), Lib.hid (gr_of hgr2.out (B1.out.mono hzr2))⟩
            case measure => simp [intOf]; omega
          | true =>
            have hy' := Lib.hid (hyes.out hin)
            have hpr := plcN_in hin
            obtain ⟨p, hp⟩ : ∃ p, p = plcN ls (h : Int) := ⟨_, rfl⟩
            rw [← hp] at cN hpr hOk
            obtain ⟨q, hq⟩ : ∃ q, q = p + 1 := ⟨_, rfl⟩
            rw [← hq] at cN
            have hq0 : q > 0 := by omega
            have hwr : wrap64 (q - 1) = p := by unfold wrap64; omega
            have hwr2 : IntKind.i64.wrap (q - 1) = p := by rw [IntKind.wrap_i64]; omega
            have iok : IntOK p := ⟨by omega, by omega⟩
            have hrow1 := Lib.hid (rowTo hrow2.out B1.out)
            have o1 := hrow1.out.cell (j := 1) (by simp)
            have lO := hrow1.out.lt
            simp only [List.getElem_cons_zero, List.getElem_cons_succ] at o1
            clear hin hyes hnot hpr hp hq hc0 hc1 hc2
            go_upto_region 20 with fail
            have Hkeep := fun {Wk : World} (hW : Below W2.heap.size W2 Wk) => Lib.hid (show Wk.cell? ⟨w1.heap.size, 1, none⟩ = some (.slice oa O.length oc) ∧ Wk.cell? ⟨wy.heap.size, 0, none⟩ = some (.int .i64 (h : Int)) ∧ Wk.cell? ⟨wy.heap.size, 1, none⟩ = some (.slice pa r.pos.length pc) ∧ Wk.cell? ⟨wy.heap.size, 2, none⟩ = some (.slice na r.neg.length nc) ∧ Wk.cell? ⟨w.heap.size + 1 + 1 + 1, 0, none⟩ = some (.slice (some ⟨w.heap.size + 1 + 1, 0, none⟩) g.atoms.length g.atoms.length) ∧ Wk.cell? ⟨w.heap.size + 1 + 1, h, none⟩ = some (.int .i64 q) from ⟨(hW.cell (p := ⟨w1.heap.size, 1, none⟩) lO).trans o1, (hW.cell (p := ⟨wy.heap.size, 0, none⟩) lQ).trans f0, (hW.cell (p := ⟨wy.heap.size, 1, none⟩) lQ).trans f1, (hW.cell (p := ⟨wy.heap.size, 2, none⟩) lQ).trans f2, (hW.cell (p := ⟨w.heap.size + 1 + 1 + 1, 0, none⟩) lS).trans cS, (hW.cell (p := ⟨w.heap.size + 1 + 1, h, none⟩) lN).trans cN⟩)
            (try simp only [List.append_eq, List.cons_append, List.nil_append])
            refine wp_region_noPanic ?_
            refine wp_region_last (S := fun w' => w'.cell? ⟨w1.heap.size, 1, none⟩ = some (.slice oa O.length oc) ∧ w'.cell? ⟨wy.heap.size, 0, none⟩ = some (.int .i64 (h : Int)) ∧ w'.cell? ⟨wy.heap.size, 1, none⟩ = some (.slice pa r.pos.length pc) ∧ w'.cell? ⟨wy.heap.size, 2, none⟩ = some (.slice na r.neg.length nc) ∧ w'.cell? ⟨w.heap.size + 1 + 1 + 1, 0, none⟩ = some (.slice (some ⟨w.heap.size + 1 + 1, 0, none⟩) g.atoms.length g.atoms.length) ∧ w'.cell? ⟨w.heap.size + 1 + 1, h, none⟩ = some (.int .i64 q)) (by kernel_rfl) ?_ rfl ?_ (fun hHeld => ?_)
            · kernel_rfl
            · exact (Hkeep (Below.drew (Below.refl _ _))).out
            dsimp only [List.dropLast]
            refine wpAnyH_take1 (i := 0) (oi := _) (v := ?_) (by kernel_rfl) rfl (by kernel_rfl) (fun _ _ _ h => h) (Or.inl ⟨by rfl, ?_⟩) (by assumption) ?_
            rotate_left 1
            · intro w hSw; (try dsimp only at hSw); go_simp; (with_reducible rfl)
            (try simp only [Act.put, List.getElem_toArray, List.getElem_cons_zero, List.setIfInBounds_toArray, List.set_cons_zero, List.set_cons_succ])
            refine wpAnyH_take1 (i := 1) (oi := _) (v := ?_) (by kernel_rfl) rfl (by kernel_rfl) (fun _ _ _ h => h) (Or.inl ⟨by rfl, ?_⟩) (by assumption) ?_
            rotate_left 1
            · intro w hSw; (try dsimp only at hSw); go_simp; (with_reducible rfl)
            (try simp only [Act.put, List.getElem_toArray, List.getElem_cons_zero, List.getElem_cons_succ, List.setIfInBounds_toArray, List.set_cons_zero, List.set_cons_succ])
            refine wpAnyH_take1 (i := 2) (oi := _) (v := ?_) (by kernel_rfl) rfl (by kernel_rfl) (fun _ _ _ h => h) (Or.inl ⟨by rfl, ?_⟩) (by assumption) ?_
            rotate_left 1
            · intro w hSw; (try dsimp only at hSw); go_simp; (with_reducible rfl)
            (try simp only [Act.put, List.getElem_toArray, List.getElem_cons_zero, List.getElem_cons_succ, List.setIfInBounds_toArray, List.set_cons_zero, List.set_cons_succ])
            refine wpAnyH_take1 (i := 3) (oi := _) (v := ?_) (by kernel_rfl) rfl (by kernel_rfl) (fun _ _ _ h => h) (Or.inl ⟨by rfl, ?_⟩) (by assumption) ?_
            rotate_left 1
            · intro w hSw; (try dsimp only at hSw); go_simp; (with_reducible rfl)
            (try simp only [Act.put, List.getElem_toArray, List.getElem_cons_zero, List.getElem_cons_succ, List.setIfInBounds_toArray, List.set_cons_zero, List.set_cons_succ])
            refine wpAnyH_take1 (i := 4) (oi := _) (v := ?_) (by kernel_rfl) rfl (by kernel_rfl) (fun _ _ _ h => h) (Or.inl ⟨by rfl, ?_⟩) (by assumption) ?_
            rotate_left 1
            · intro w hSw; (try dsimp only at hSw); go_simp; (with_reducible rfl)
            (try simp only [Act.put, List.getElem_toArray, List.getElem_cons_zero, List.getElem_cons_succ, List.setIfInBounds_toArray, List.set_cons_zero, List.set_cons_succ])
            refine wpAnyH_take1 (i := 5) (oi := _) (v := ?_) (by kernel_rfl) rfl (by kernel_rfl) (fun _ _ _ h => h) (Or.inl ⟨by rfl, ?_⟩) (by assumption) ?_
            rotate_left 1
            · intro w hSw; (try dsimp only at hSw); go_simp; (with_reducible rfl)
            (try simp only [Act.put, List.getElem_toArray, List.getElem_cons_zero, List.getElem_cons_succ, List.setIfInBounds_toArray, List.set_cons_zero, List.set_cons_succ])
            refine wpAnyH_take1 (i := 6) (oi := _) (v := ?_) (by kernel_rfl) rfl (by kernel_rfl) (fun _ _ _ h => h) (Or.inl ⟨by rfl, ?_⟩) (by assumption) ?_
            rotate_left 1
            · intro w hSw; (try dsimp only at hSw); go_simp; (with_reducible rfl)
            (try simp only [Act.put, List.getElem_toArray, List.getElem_cons_zero, List.getElem_cons_succ, List.setIfInBounds_toArray, List.set_cons_zero, List.set_cons_succ])
            refine wpAnyH_take1 (i := 7) (oi := _) (v := ?_) (by kernel_rfl) rfl (by kernel_rfl) (fun _ _ _ h => h) (Or.inl ⟨by rfl, ?_⟩) (by assumption) ?_
            rotate_left 1
            · intro w hSw; (try dsimp only at hSw); go_simp; (with_reducible rfl)
            (try simp only [Act.put, List.getElem_toArray, List.getElem_cons_zero, List.getElem_cons_succ, List.setIfInBounds_toArray, List.set_cons_zero, List.set_cons_succ])
            refine wpAnyH_take1 (i := 8) (oi := _) (v := ?_) (by kernel_rfl) rfl (by kernel_rfl) (fun _ _ _ h => h) (Or.inl ⟨by rfl, ?_⟩) (by assumption) ?_
            rotate_left 1
            · intro w hSw; (try dsimp only at hSw); go_simp; (with_reducible rfl)
            (try simp only [Act.put, List.getElem_toArray, List.getElem_cons_zero, List.getElem_cons_succ, List.setIfInBounds_toArray, List.set_cons_zero, List.set_cons_succ])
            refine wpAnyH_take1 (i := 9) (oi := _) (v := ?_) (by kernel_rfl) rfl (by kernel_rfl) (fun _ _ _ h => h) (Or.inl ⟨by rfl, ?_⟩) (by assumption) ?_
            rotate_left 1
            · intro w hSw; (try dsimp only at hSw); go_simp; (with_reducible rfl)
            (try simp only [Act.put, List.getElem_toArray, List.getElem_cons_zero, List.getElem_cons_succ, List.setIfInBounds_toArray, List.set_cons_zero, List.set_cons_succ])
            refine wpAnyH_take1 (i := 10) (oi := _) (v := ?_) (by kernel_rfl) rfl (by kernel_rfl) (fun _ _ _ h => h) (Or.inl ⟨by rfl, ?_⟩) (by assumption) ?_
            rotate_left 1
            · intro w hSw; (try dsimp only at hSw); go_simp; (with_reducible rfl)
            (try simp only [Act.put, List.getElem_toArray, List.getElem_cons_zero, List.getElem_cons_succ, List.setIfInBounds_toArray, List.set_cons_zero, List.set_cons_succ])
            refine wpAnyH_take1 (i := 12) (oi := _) (v := ?_) (by kernel_rfl) rfl (by kernel_rfl) (fun _ _ _ h => h) (Or.inl ⟨by rfl, ?_⟩) (by assumption) ?_
            rotate_left 1
            · intro w hSw; (try dsimp only at hSw); go_simp; (with_reducible rfl)
            (try simp only [Act.put, List.getElem_toArray, List.getElem_cons_zero, List.getElem_cons_succ, List.setIfInBounds_toArray, List.set_cons_zero, List.set_cons_succ])
            refine wpAnyH_take1 (i := 13) (oi := _) (v := ?_) (by kernel_rfl) rfl (by kernel_rfl) (fun _ _ _ h => h) (Or.inl ⟨by rfl, ?_⟩) (by assumption) ?_
            rotate_left 1
            · intro w hSw; (try dsimp only at hSw); go_simp; (with_reducible rfl)
            (try simp only [Act.put, List.getElem_toArray, List.getElem_cons_zero, List.getElem_cons_succ, List.setIfInBounds_toArray, List.set_cons_zero, List.set_cons_succ])
            refine wpAnyH_take1 (i := 14) (oi := _) (v := ?_) (by kernel_rfl) rfl (by kernel_rfl) (fun _ _ _ h => h) (Or.inl ⟨by rfl, ?_⟩) (by assumption) ?_
            rotate_left 1
            · intro w hSw; (try dsimp only at hSw); go_simp; (with_reducible rfl)
            (try simp only [Act.put, List.getElem_toArray, List.getElem_cons_zero, List.getElem_cons_succ, List.setIfInBounds_toArray, List.set_cons_zero, List.set_cons_succ])
            refine wpAnyH_one (i := 11) (by kernel_rfl) rfl (by rfl) fun K hK => ?_
            go_simp
            refine ((anewP_spec (ls := ls) ((HX.out.at B1.out).at Seq.way) (by omega) (HAn.out.at Seq.way).c (HAn.out.at Seq.way).l (HAn.out.at Seq.way).n (HAn.out.at Seq.way).r rfl (by omega) hPx.out)).mono ?_
            rintro e y1 ⟨_, rfl, hy1, hz1⟩
            have HY1 := below_step hy1 (Seq.way : Below W2.heap.size W2 _)
            have zy1 := HY1.size
            (try dsimp only)
            clear hHeld
            refine hK.out _ _ (Hkeep HY1).out fun hHeld => ?_
            clear hK K
            (try simp only [Act.put, List.getElem_toArray, List.getElem_cons_zero, List.getElem_cons_succ, List.setIfInBounds_toArray, List.set_cons_zero, List.set_cons_succ])
            obtain ⟨za1, zc1, rfl⟩ := hz1.shape
            have HZ1q := Lib.hid (show Seq intE (fun b => wy.heap.size ≤ b) y1 (.slice za1 r.pos.length zc1) (r.pos.map (plcN ls)) by have h9 := hz1.mono (T := fun b => wy.heap.size ≤ b) (fun b h _ => by have : W2.drew.heap.size ≤ b := h; (try simp at this); omega) (fun _ _ _ => rfl); rwa [List.length_map] at h9)
            clear hz1
            refine wpAnyH_one (i := 15) (by kernel_rfl) rfl (by rfl) fun K hK => ?_
            go_simp
            refine ((anewP_spec (ls := ls) ((HY.out.at B1.out).at HY1) (by omega) (HAn.out.at HY1).c (HAn.out.at HY1).l (HAn.out.at HY1).n (HAn.out.at HY1).r rfl (by omega) hNx.out)).mono ?_
            rintro e y2 ⟨_, rfl, hy2, hz2⟩
            have HY2 := below_step hy2 (Seq.way : Below W2.heap.size W2 _)
            have zy2 := HY2.size
            (try dsimp only)
            clear hHeld
            refine hK.out _ _ (Hkeep HY2).out fun hHeld => ?_
            clear hK K
            (try simp only [Act.put, List.getElem_toArray, List.getElem_cons_zero, List.getElem_cons_succ, List.setIfInBounds_toArray, List.set_cons_zero, List.set_cons_succ])
            obtain ⟨za2, zc2, rfl⟩ := hz2.shape
            have HZ2q := Lib.hid (show Seq intE (fun b => wy.heap.size ≤ b) y2 (.slice za2 r.neg.length zc2) (r.neg.map (plcN ls)) by have h9 := hz2.mono (T := fun b => wy.heap.size ≤ b) (fun b h _ => by have : y1.heap.size ≤ b := h; (try simp at this); omega) (fun _ _ _ => rfl); rwa [List.length_map] at h9)
            clear hz2
            have HZ1b := Lib.hid (HZ1q.out.at hy2)
            refine wpAnyH_take1 (i := 16) (oi := _) (v := ?_) (by kernel_rfl) rfl (by kernel_rfl) (fun _ _ _ h => h) (Or.inl ⟨by rfl, ?_⟩) (by assumption) ?_
            rotate_left 1
            · intro w hSw; (try dsimp only at hSw); go_simp; (with_reducible rfl)
            (try simp only [Act.put, List.getElem_toArray, List.getElem_cons_zero, List.getElem_cons_succ, List.setIfInBounds_toArray, List.set_cons_zero, List.set_cons_succ])
            refine wpAnyH_one (i := 17) (by kernel_rfl) rfl (by rfl) fun K hK => ?_
            go_simp
            (try dsimp only)
            clear hHeld
            refine hK.out _ _ (Hkeep Seq.way).out fun hHeld => ?_
            clear hK K
            (try simp only [Act.put, List.getElem_toArray, List.getElem_cons_zero, List.getElem_cons_succ, List.setIfInBounds_toArray, List.set_cons_zero, List.set_cons_succ])
            refine wpAnyH_one (i := 18) (by kernel_rfl) rfl (by rfl) fun K hK => ?_
            refine (wp_app_ruleK (S := fun b => wz.heap.size ≤ b) (Sy := fun b => wy.heap.size ≤ b) (base := wz.heap.size) (wm := wy) (y := ⟨p, r.pos.map (plcN ls), r.neg.map (plcN ls)⟩)  _ _ 24 rfl Tryz.underlying24 infoRule rfl hO.out rfl (below_step Seq.way B1.out) iok (HZ1b.out.at Seq.way) (HZ2q.out.at Seq.way) (fun b h _ => ⟨Nat.le_trans hzr2 h, .inr h⟩) ((Row.new _ [_, _, _] _ rfl).cell (j := 0) (by simp)) ((Row.new _ [_, _, _] _ rfl).cell (j := 1) (by simp)) ((Row.new _ [_, _, _] _ rfl).cell (j := 2) (by simp)) (by omega) hzr2 ?_)
            intro ao5 cap5 w5 hown5 hk5
            have H5 := Lib.hid hown5
            obtain ⟨q1, q2, q3, q4, q5, q6⟩ := hHeld
            have S5 := Lib.hid (And.intro (keepA hk5 q1 (.inl (show w1.heap.size < wz.heap.size by omega))) (And.intro (keepA hk5 q2 (.inr (Nat.le_refl _))) (And.intro (keepA hk5 q3 (.inr (Nat.le_refl _))) (And.intro (keepA hk5 q4 (.inr (Nat.le_refl _))) (And.intro (keepA hk5 q5 (.inl (show w.heap.size + 1 + 1 + 1 < wz.heap.size by omega))) (keepA hk5 q6 (.inl (show w.heap.size + 1 + 1 < wz.heap.size by omega))))))))
            have hHeld := True.intro
            have B5 := Lib.hid (Below.trans (Below.mono (Seq.way : Below W2.heap.size W2 _) (by omega)) hk5.below)
            have row5 := Lib.hid (hrow1.out.at (B5.out.block _ (show w1.heap.size < wz.heap.size by omega)))
            have fz5 := row5.out.frozen 1
            have oc5 := row5.out.cell (j := 1) (by simp)
            simp only [List.getElem_cons_zero, List.getElem_cons_succ] at oc5
            clear hown5 hk5 q1 q2 q3 q4 q5 q6
            clear hHeld
            refine hK.out _ _ S5.out fun hHeld => ?_
            clear hK K
            (try simp only [Act.put, List.getElem_toArray, List.getElem_cons_zero, List.getElem_cons_succ, List.setIfInBounds_toArray, List.set_cons_zero, List.set_cons_succ])
            refine wpAnyH_take1 (i := 19) (oi := _) (v := ?_) (by kernel_rfl) rfl (by kernel_rfl) (fun _ _ _ h => h) (Or.inl ⟨by rfl, ?_⟩) (by assumption) ?_
            rotate_left 1
            · intro w hSw; (try dsimp only at hSw); go_simp; (with_reducible rfl)
            (try simp only [Act.put, List.getElem_toArray, List.getElem_cons_zero, List.getElem_cons_succ, List.setIfInBounds_toArray, List.set_cons_zero, List.set_cons_succ])
            refine wpAnyH_done (by kernel_rfl) ?_ _
            refine (show Oper.wp _ _ _ _ _ _ from ?_)
            clear hHeld
            go_simp
            refine NoPanic.normal ?_
            go_wp2_with fail
            go_roundw
            case rel =>
              refine ⟨k + 1, .slice ao5 (O.length + 1) cap5, by go_num, hlt, Lib.hid ?_, Lib.hid ?_, Lib.hid ?_⟩
              · exact ((hrow1.out.at (B5.out.block _ (show w1.heap.size < wz.heap.size by omega))).set 1 _)
              · rw [hy'.out, hOk.out]
                exact own_set (by simpa using H5.out) (by omega) fun b h => by have : wz.heap.size ≤ b := h; omega
              · exact gr_trans (gr_of hgr2.out (Below.trans (B1.out.mono hzr2) B5.out)) (gr_set _ _ _ _)
            case measure => simp [intOf]; omega
        · obtain rfl : k = g.rules.length := by omega
          have hkl : ¬ (g.rules.length : Int) < (g.rules.length : Int) := by omega
          have he := Lib.hid (show onlyG g ls = ⟨ls.map (atomAt g), onlyTo g ls g.rules.length⟩ by unfold onlyG onlyTo; rw [List.take_length]; rfl)
          have hol := onlyTo_len g ls g.rules.length
          obtain ⟨O, hOe⟩ : ∃ O, O = onlyTo g ls g.rules.length := ⟨_, rfl⟩
          obtain ⟨A, hAe⟩ : ∃ A, A = ls.map (atomAt g) := ⟨_, rfl⟩
          have hAl : A.length ≤ 100000 := by rw [hAe, List.length_map]; omega
          rw [← hOe] at hO hol he
          rw [← hAe] at HOa he
          have o0 := hrow2.out.cell (j := 0) (by simp)
          have o1 := hrow2.out.cell (j := 1) (by simp)
          have r0 := HZr2.out.cell (j := 0) (by simp)
          have r1 := HZr2.out.cell (j := 1) (by simp)
          simp only [List.getElem_cons_zero, List.getElem_cons_succ] at o0 o1 r0 r1
          have fz0 := HZr2.out.frozen 0
          have fz1 := HZr2.out.frozen 1
          obtain ⟨oa, oc, rfl, -, -⟩ := hO.out.shape
          obtain ⟨oa2, oc2, rfl, -, -⟩ := HOa.out.shape
          clear hOe hAe
          go_wp2_with fail
          have s0 : ((wr.setCell ⟨w.heap.size + 1, 0, none⟩ (.slice oa2 A.length oc2)).setCell ⟨w.heap.size + 1, 1, none⟩ (.slice oa O.length oc)).cell? ⟨w.heap.size + 1, 0, none⟩ = some (.slice oa2 A.length oc2) := ((HZr2.out.set 0 _).set 1 _).cell (j := 0) (by simp)
          have s1 : ((wr.setCell ⟨w.heap.size + 1, 0, none⟩ (.slice oa2 A.length oc2)).setCell ⟨w.heap.size + 1, 1, none⟩ (.slice oa O.length oc)).cell? ⟨w.heap.size + 1, 1, none⟩ = some (.slice oa O.length oc) := ((HZr2.out.set 0 _).set 1 _).cell (j := 1) (by simp)
          refine bodyPost_ret (v := .agg #[.slice oa2 A.length oc2, .slice oa O.length oc]) (by simp [results, Tryz.results24, go_sem, s0, s1]) rfl ?_
          refine ⟨_, rfl, hbw2.out.trans ((gr_below (gr_set _ _ _ _) (by omega) (by omega)).trans (gr_below (gr_set _ _ _ _) (by omega) (by simp <;> omega))), ?_⟩
          rw [hcg.out, he.out]
          refine ⟨_, _, rfl, ?_, ?_⟩
          · exact (own_set (own_set (gr_own HOa.out hgr2.out (fun b hb e => by have := (HOa.out.blk hb).1; simp at e; omega) fun b h e => by have := h.2; simp at e; omega) (by omega) fun b h => by have := h.2; omega) (by omega) fun b h => by have := h.2; omega).seq (by omega) fun b _ h => h.imp (fun h => h.1) fun h => by omega
          · exact (own_set (own_set hO.out (by omega) fun b h => by have : wz.heap.size ≤ b := h; omega) (by omega) fun b h => by have : wz.heap.size ≤ b := h; omega).seq (by omega) fun b _ h => .inr (h.elim (fun h => by have : wz.heap.size ≤ b := h; omega) fun h => by omega)
end Go.Proofs.YtaedgpcmkagpeaaGreat
