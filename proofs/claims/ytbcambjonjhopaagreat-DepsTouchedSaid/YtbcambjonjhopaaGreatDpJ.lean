/-
  R23: Dirty, Comp, other, anew, Again, Same.
  R23: other, anew, Again, Same.
-/
import Derived.Test.YtbcambjonjhopaaGreatDpH
import Derived.Test.YtbcambjonjhopaaGreatAppG
namespace Go.Proofs.YtbcambjonjhopaaGreat
section
open Go Go.RowKit

theorem ResV.mk {S : Nat → Prop} {w : World} {ta ia la : Option Addr} {tc il ic lc : Nat} {r : Res} (h1 : Seq tabE S w (.slice ta r.tabs.length tc) r.tabs) (h2 : Seq edgE S w (.slice la r.lks.length lc) r.lks) :
    ResV S w (.agg #[.slice ta r.tabs.length tc, .slice ia il ic, .slice la r.lks.length lc]) r := ⟨ta, tc, ia, il, ic, la, lc, rfl, h1, h2⟩
/-- The bounds of what is asked. -/
structure ResOK (r : Res) : Prop where
  tl : r.tabs.length ≤ 1000
  ll : r.lks.length ≤ 1000
  cl : ∀ t ∈ r.tabs, t.call.length ≤ 1000
  rg : RngR r
theorem reaL_len (r : Res) (i : Nat) : (natsZ (reaL r i)).length ≤ r.tabs.length := by
  rw [natsZ_len]
  have := List.length_filter_le (reB (edgL r) r.tabs.length i) (List.range r.tabs.length)
  rw [List.length_range] at this; exact this
theorem cmpoL_len (r : Res) (i : Nat) : (natsZ (cmpoL r i)).length ≤ r.tabs.length := by
  rw [natsZ_len]
  have := List.length_filter_le (fun j => reB (edgL r) r.tabs.length i j && reB (edgL r) r.tabs.length j i) (List.range r.tabs.length)
  rw [List.length_range] at this; exact this
theorem touchL_len (r : Res) (c : List (List Cell)) : (natsZ (touchL r c)).length ≤ r.tabs.length := fltN_len _ _

set_option maxHeartbeats 3200000 in
set_option maxRecDepth 100000 in
theorem DirtyR_spec {S T : Nat → Prop} {w : World} {v u : Value} {r : Res} {c : List (List Cell)} (hr : ResV S w v r) (hc : Seq (seqE cellE) T w u c) (hro : ResOK r) (hok : ChgOK c) :
    Calls Tryz.prog 15 #[v, u] w (Ret (fun o w' => Seq intE (fun b => w.heap.size ≤ b) w' o (natsZ (dirtyL r c))) w) := by
  obtain ⟨ta, tc, ia, il, ic, la, lc, rfl, hT, hE⟩ := hr
  obtain ⟨W, hW⟩ : ∃ W, W = w.alloc (.cells #[.slice ta r.tabs.length tc, .slice ia il ic, .slice la r.lks.length lc] 26) := ⟨_, rfl⟩
  have HBW := Lib.hid (show Below w.heap.size w W by rw [hW]; exact Seq.way)
  have HT := Lib.hid (hT.any.at HBW.out)
  have HE := Lib.hid (hE.any.at HBW.out)
  have HW := Lib.hid hW
  obtain ⟨bt, hbt⟩ : ∃ b, b = w.heap.size := ⟨_, rfl⟩
  have Hbt := Lib.hid hbt
  have HR := Lib.hid (show RowA 26 W bt [.slice ta r.tabs.length tc, .slice ia il ic, .slice la r.lks.length lc] by rw [hW, hbt]; exact Row.new w [_, _, _] _ rfl)
  have Kr := fun {W' : World} (h : Below W.heap.size W W') => Lib.hid (show W'.cell? ⟨bt, 0, none⟩ = some (.slice ta r.tabs.length tc) ∧ W'.cell? ⟨bt, 1, none⟩ = some (.slice ia il ic) ∧ W'.cell? ⟨bt, 2, none⟩ = some (.slice la r.lks.length lc) ∧ bt < W'.heap.size from
    ⟨(HR.out.at h).row.cell (j := 0) (by simp), (HR.out.at h).row.cell (j := 1) (by simp), (HR.out.at h).row.cell (j := 2) (by simp), (HR.out.at h).row.lt⟩)
  clear hT hE hW hbt
  have HC := Lib.hid (hc.at HBW.out)
  have Hok := Lib.hid hok
  have Hro := Lib.hid hro
  have hrl := hro.tl
  obtain ⟨ca, cc, rfl⟩ := hc.shape
  clear hc hok hro
  go_enter Tryz.func15, Tryz.ntmps15
  go_upto_region 1 with fail
  rw [← HW.out, ← Hbt.out]
  obtain ⟨r0, r1, r2, rl⟩ := (Kr (Below.refl _ W)).out
  go_wp2_with fail
  refine (TouchedR_spec (ResV.mk HT.out HE.out) HC.out Hro.out.tl Hro.out.cl Hok.out).mono ?_
  rintro e w1 ⟨v1, rfl, hb1, hs1⟩
  have htl := touchL_len r c
  have Hdef := Lib.hid (show dirtyL r c = fltN (drtB r c) r.tabs.length from rfl)
  have Hdr := Lib.hid (fun i => show drtB r c i = meetB (natsZ (reaL r i)) (natsZ (touchL r c)) from rfl)
  obtain ⟨t, ht⟩ : ∃ t, t = natsZ (touchL r c) := ⟨_, rfl⟩
  rw [← ht] at hs1 htl Hdr
  obtain ⟨ua, uc, rfl⟩ := hs1.shape
  have HU := Lib.hid hs1.any
  have B1 := Lib.hid hb1
  clear hs1 hb1 ht r0 r1 r2 rl
  obtain ⟨r0, r1, r2, rl⟩ := (Kr B1.out).out
  go_wp2_with fail
  have hown0 := Lib.hid (show Own intE (fun _ => False) w1.heap.size 3 (w1.alloc (.cells #[] 3)) (.slice (some ⟨w1.heap.size, 0, none⟩) 0 0) (natsZ (fltN (drtB r c) 0)) from Own.lit0 rfl (Nat.le_refl _) rfl)
  clear r0 r1 r2 rl
  go_loopw [6, 7] (fun o i wz => ∃ k : Nat, k ≤ r.tabs.length ∧ i = .int .i64 k ∧ Hid (Own intE (fun _ => False) w1.heap.size 3 wz o (natsZ (fltN (drtB r c) k))) ∧ Hid (Below w1.heap.size w1 wz)) (fun _ i _ => r.tabs.length - (intOf i).toNat)
  case atStart => exact ⟨0, Nat.zero_le _, rfl, hown0, Lib.hid Seq.way⟩
  case round =>
    obtain ⟨k, hk, rfl, hown, hbz⟩ := hrel
    have hzr := hbz.out.size
    have hln2 := fltN_len (drtB r c) k
    have hsq := Lib.hid (hown.out.seq (S := fun _ => False) (T := fun _ => True) (by omega) fun _ _ _ => trivial)
    obtain ⟨oa, oc, rfl⟩ := hsq.out.shape
    have hbw := Lib.hid (below_step hbz.out B1.out)
    obtain ⟨r0, r1, r2, rl⟩ := (Kr hbw.out).out
    by_cases hkl : k < r.tabs.length
    · have hkI : (k : Int) < (r.tabs.length : Int) := by omega
      have hk0 : (0 : Int) ≤ (k : Int) := by omega
      go_wp2_with fail
      refine (ReachR_spec (n := k) (ResV.mk (HT.out.at (below_step Seq.way hbw.out)) (HE.out.at (below_step Seq.way hbw.out))) Hro.out.rg hkl Hro.out.tl Hro.out.ll).mono ?_
      rintro e z1 ⟨v2, rfl, hz1, hs2⟩
      have hat := Lib.hid (show drtB r c k = meetB (natsZ (reaL r k)) t from Hdr.out k)
      have hrln := reaL_len r k
      rw [show natsZ (reachL (edgL r) r.tabs.length k) = natsZ (reaL r k) from rfl] at hs2
      obtain ⟨x, hx⟩ : ∃ x, x = natsZ (reaL r k) := ⟨_, rfl⟩
      rw [← hx] at hs2 hat hrln
      obtain ⟨xa, xc, rfl⟩ := hs2.shape
      have HX := Lib.hid hs2.any
      have Z1 := Lib.hid (below_step hz1 (Seq.way : Below wr.heap.size wr _))
      clear hs2 hz1 hx r0 r1 r2 rl
      go_wp2_with fail
      refine (meetR_spec (HX.out.at Seq.way) (HU.out.at (below_step (below_step Seq.way Z1.out) hbz.out))).mono ?_
      rintro e _ ⟨rfl, rfl⟩
      rw [← hat.out]
      have HZ := Lib.hid (below_step Z1.out hbz.out)
      have hzz := HZ.out.size
      have HO := Lib.hid (Own.move hown.out Z1.out)
      cases hq : drtB r c k with
      | false =>
        have hno2 := Lib.hid (fltN_no hq)
        clear hq
        go_wp2_with fail
        go_roundw
        case rel => exact ⟨k + 1, hkl, by go_num, Lib.hid (by rw [hno2.out]; exact Own.move HO.out Seq.way), Lib.hid (below_step Seq.way HZ.out)⟩
        case measure => simp [intOf]; omega
      | true =>
        have hy2 := Lib.hid (fltN_yes hq)
        clear hq
        go_wp2_with (at_builtin; refine wpList_app_int rfl _ _ 32 rfl Tryz.underlying32 infoInt rfl HO.out rfl (y := (k : Int)) Seq.way ⟨by omega, by omega⟩ ?_ ?_ ?_ ?_)
        · go_simp
        · omega
        · exact hzz
        · intro ao cap w' hown' hkept
          have H' := Lib.hid hown'
          have K' := Lib.hid (Below.trans HZ.out (Below.trans (Below.mono (Seq.way : Below _ _ _) hzz) hkept.below))
          clear hown' hkept
          go_wp2_with fail
          go_roundw
          case rel => exact ⟨k + 1, hkl, by go_num, Lib.hid (by rw [hy2.out]; simpa using H'.out), K'⟩
          case measure => simp [intOf]; omega
    · have hkI : ¬ (k : Int) < (r.tabs.length : Int) := by omega
      have hke := Lib.hid (show k = r.tabs.length by omega)
      have hfin := Lib.hid (show Seq intE (fun b => w.heap.size ≤ b) wr (.slice oa (natsZ (fltN (drtB r c) k)).length oc) (natsZ (dirtyL r c)) by
        rw [Hdef.out, ← hke.out]
        have h1 := HBW.out.size
        have h2 := B1.out.size
        exact hown.out.seq (by omega) fun b _ hb => hb.elim False.elim fun h => by omega)
      clear hkl
      go_wp2_with fail
      go_ret
      exact ⟨_, rfl, below_step hbw.out HBW.out, hfin.out⟩

/-- Of a row those of which something is so. -/
theorem cmpo_flt (r : Res) (n : Nat) : natsZ (cmpoL r n) = fltL (fun x : Int => decide ((n : Int) ∈ natsZ (reaL r x.toNat))) (natsZ (reaL r n)) := by
  unfold cmpoL reaL
  rw [← compL_reach]
  unfold fltL natsZ
  rw [List.filter_map]
  congr 1
  apply List.filter_congr
  intro j _
  simp only [Function.comp, Int.toNat_natCast]
  have := natsZ_mem (l := reachL (edgL r) r.tabs.length j) (n := n)
  rw [mem_reachL] at this
  unfold natsZ at this
  rw [Bool.eq_iff_iff, decide_eq_true_eq]
  exact this.symm
theorem reaL_at {r : Res} {n : Nat} {x : Int} (h : x ∈ natsZ (reaL r n)) : ∃ j : Nat, x = (j : Int) ∧ j < r.tabs.length := by
  unfold natsZ at h
  obtain ⟨j, hj, rfl⟩ := List.mem_map.1 h
  exact ⟨j, rfl, List.mem_range.1 (List.mem_filter.1 hj).1⟩

set_option maxHeartbeats 3200000 in
set_option maxRecDepth 100000 in
theorem CompR23_spec {S : Nat → Prop} {w : World} {v : Value} {r : Res} {n : Nat} (hr : ResV S w v r) (hn : n < r.tabs.length) (hro : ResOK r) :
    Calls Tryz.prog 39 #[v, .int .i64 n] w (Ret (fun o w' => Seq intE (fun b => w.heap.size ≤ b) w' o (natsZ (cmpoL r n))) w) := by
  obtain ⟨ta, tc, ia, il, ic, la, lc, rfl, hT, hE⟩ := hr
  obtain ⟨W, hW⟩ : ∃ W, W = w.alloc (.cells #[.slice ta r.tabs.length tc, .slice ia il ic, .slice la r.lks.length lc] 26) := ⟨_, rfl⟩
  have HBW := Lib.hid (show Below w.heap.size w W by rw [hW]; exact Seq.way)
  have HT := Lib.hid (hT.any.at HBW.out)
  have HE := Lib.hid (hE.any.at HBW.out)
  have HW := Lib.hid hW
  obtain ⟨bt, hbt⟩ : ∃ b, b = w.heap.size := ⟨_, rfl⟩
  have Hbt := Lib.hid hbt
  have HR := Lib.hid (show RowA 26 W bt [.slice ta r.tabs.length tc, .slice ia il ic, .slice la r.lks.length lc] by rw [hW, hbt]; exact Row.new w [_, _, _] _ rfl)
  have Kr := fun {W' : World} (h : Below W.heap.size W W') => Lib.hid (show W'.cell? ⟨bt, 0, none⟩ = some (.slice ta r.tabs.length tc) ∧ W'.cell? ⟨bt, 1, none⟩ = some (.slice ia il ic) ∧ W'.cell? ⟨bt, 2, none⟩ = some (.slice la r.lks.length lc) ∧ bt < W'.heap.size from
    ⟨(HR.out.at h).row.cell (j := 0) (by simp), (HR.out.at h).row.cell (j := 1) (by simp), (HR.out.at h).row.cell (j := 2) (by simp), (HR.out.at h).row.lt⟩)
  clear hT hE hW hbt
  have Hro := Lib.hid hro
  have hrl := hro.tl
  have Hn := Lib.hid hn
  clear hro hn
  go_enter Tryz.func39, Tryz.ntmps39
  go_upto_region 1 with fail
  rw [← HW.out, ← Hbt.out]
  obtain ⟨r0, r1, r2, rl⟩ := (Kr (Below.refl _ W)).out
  go_wp2_with fail
  refine (ReachR_spec (n := n) (ResV.mk (HT.out.at Seq.way) (HE.out.at Seq.way)) Hro.out.rg Hn.out Hro.out.tl Hro.out.ll).mono ?_
  rintro e w1 ⟨v1, rfl, hb1, hs1⟩
  rw [show natsZ (reachL (edgL r) r.tabs.length n) = natsZ (reaL r n) from rfl] at hs1
  have hdef := Lib.hid (cmpo_flt r n)
  have hrln := reaL_len r n
  have hat := Lib.hid (fun x h => reaL_at (r := r) (n := n) (x := x) h)
  obtain ⟨l, hl⟩ : ∃ l, l = natsZ (reaL r n) := ⟨_, rfl⟩
  rw [← hl] at hs1 hdef hrln hat
  obtain ⟨f, hf⟩ : ∃ f, f = (fun x : Int => decide ((n : Int) ∈ natsZ (reaL r x.toNat))) := ⟨_, rfl⟩
  rw [← hf] at hdef
  have Hf := Lib.hid (fun j : Nat => (show decide ((n : Int) ∈ natsZ (reaL r j)) = f (j : Int) by rw [hf]; simp))
  obtain ⟨ua, uc, rfl⟩ := hs1.shape
  have hown0 := Lib.hid (show Own intE (fun _ => False) W.heap.size 3 w1 (.slice (some ⟨W.heap.size, 0, none⟩) 0 0) (fltL f (l.take 0)) from by
    have h0 : Own intE (fun _ => False) W.heap.size 3 (W.alloc (.cells #[] 3)) (.slice (some ⟨W.heap.size, 0, none⟩) 0 0) (fltL f (l.take 0)) := Own.lit0 rfl (Nat.le_refl _) rfl
    exact h0.moveO (fun b h _ => hb1.block b h) fun b h _ => hb1.block b h)
  have HUb := Lib.hid (show Seq intE (fun b => (Value.slice (some ⟨W.heap.size, 0, none⟩) 0 0).ownBlock ≠ some b) w1 (.slice ua l.length uc) l from hs1.mono (fun b hb _ e => by
    have e2 : some W.heap.size = some b := e
    simp only [Option.some.injEq] at e2
    simp at hb; omega) fun _ _ _ => rfl)
  have B1 := Lib.hid (below_step hb1 (Seq.way : Below W.heap.size W _))
  clear hs1 hb1 hl hf r0 r1 r2 rl
  obtain ⟨r0, r1, r2, rl⟩ := (Kr B1.out).out
  go_wp2_with fail
  clear r0 r1 r2 rl
  go_loopw [5, 7] (fun o i wz => ∃ k : Nat, k ≤ l.length ∧ i = .int .i64 k ∧ Hid (Own intE (fun _ => False) W.heap.size 3 wz o (fltL f (l.take k))) ∧ Hid (Seq intE (fun b => o.ownBlock ≠ some b) wz (.slice ua l.length uc) l) ∧ Hid (Below W.heap.size W wz)) (fun _ i _ => l.length - (intOf i).toNat)
  case atStart => exact ⟨0, Nat.zero_le _, rfl, hown0, HUb, B1⟩
  case round =>
    obtain ⟨k, hk, rfl, hown, hul, hbz⟩ := hrel
    have hzr := hbz.out.size
    have hln2 : (fltL f (l.take k)).length ≤ k := by have := fltL_len f (l.take k); rw [List.length_take] at this; omega
    have hsq := Lib.hid (hown.out.seq (S := fun _ => False) (T := fun _ => True) (by omega) fun _ _ _ => trivial)
    obtain ⟨oa, oc, rfl⟩ := hsq.out.shape
    obtain ⟨r0, r1, r2, rl⟩ := (Kr hbz.out).out
    by_cases hkl : k < l.length
    · obtain ⟨_, _, ee, -, -, -, -, x5⟩ := hul.out
      simp only [Value.slice.injEq, true_and] at ee
      obtain ⟨rfl, rfl⟩ := ee
      obtain ⟨b1, o1, rfl, -, l1, c0, -⟩ := x5.int hkl
      obtain ⟨j, hj, hjn⟩ := hat.out _ (List.getElem_mem hkl)
      have hfy := Lib.hid (fun h : f (j : Int) = true => fltL_yes (f := f) hkl (by rw [hj]; exact h))
      have hfn := Lib.hid (fun h : f (j : Int) = false => fltL_no (f := f) hkl (by rw [hj]; exact h))
      rw [hj] at c0 hfy
      have hkI : (k : Int) < (l.length : Int) := by omega
      have hk0 : (0 : Int) ≤ (k : Int) := by omega
      have h1 := Lib.hid (fun (W' : World) (h : Below wr.heap.size wr W') => ReachR_spec (w := W') (n := j) (ResV.mk (ia := ia) (il := il) (ic := ic) (HT.out.at (below_step h hbz.out)) (HE.out.at (below_step h hbz.out))) Hro.out.rg hjn Hro.out.tl Hro.out.ll)
      have Kq := fun {W' : World} (h : Below wr.heap.size wr W') => Lib.hid (show W'.cell? ⟨bt, 0, none⟩ = some (.slice ta r.tabs.length tc) ∧ W'.cell? ⟨bt, 1, none⟩ = some (.slice ia il ic) ∧ W'.cell? ⟨bt, 2, none⟩ = some (.slice la r.lks.length lc) ∧ W'.cell? ⟨b1, o1 + k, none⟩ = some (.int .i64 (j : Int)) from
        ⟨((Kr (below_step h hbz.out)).out).1, ((Kr (below_step h hbz.out)).out).2.1, ((Kr (below_step h hbz.out)).out).2.2.1, (h.cell (p := ⟨b1, o1 + k, none⟩) l1).trans c0⟩)
      clear x5 hj r0 r1 r2 rl c0
      go_upto_region 6 with fail
      go_region_held3 (fun w' => w'.cell? ⟨bt, 0, none⟩ = some (.slice ta r.tabs.length tc) ∧ w'.cell? ⟨bt, 1, none⟩ = some (.slice ia il ic) ∧ w'.cell? ⟨bt, 2, none⟩ = some (.slice la r.lks.length lc) ∧ w'.cell? ⟨b1, o1 + k, none⟩ = some (.int .i64 (j : Int)))
        (first | exact (Kq (Below.refl _ _)).out | exact (Kq Seq.way).out | go_keep)
        (first
          | (go_at_call 23; refine (h1.out _ Seq.way).mono ?_; rintro e z1 ⟨v2, rfl, hz1, hs2⟩; have HX := Lib.hid hs2.any; have Z1 := Lib.hid (below_step hz1 (Seq.way : Below wr.heap.size wr _)))
          | (go_at_call 22; refine (InT_spec (HX.out.at Seq.way)).mono ?_; rintro e _ ⟨rfl, rfl⟩))
      rw [show natsZ (reachL (edgL r) r.tabs.length j) = natsZ (reaL r j) from rfl]
      rw [Hf.out j]
      have HZ := Lib.hid (below_step Z1.out hbz.out)
      have hzz := HZ.out.size
      have HO := Lib.hid (Own.move hown.out Z1.out)
      clear Kq h1 hz1 hs2
      have HU1 := Lib.hid (hul.out.at Z1.out)
      cases hq : f (j : Int) with
      | false =>
        have hno2 := Lib.hid (hfn.out hq)
        clear hq
        go_wp2_with fail
        go_roundw
        case rel => exact ⟨k + 1, hkl, by go_num, Lib.hid (by rw [hno2.out]; exact Own.move HO.out Seq.way), Lib.hid (HU1.out.at Seq.way), Lib.hid (below_step Seq.way HZ.out)⟩
        case measure => simp [intOf]; omega
      | true =>
        have hy2 := Lib.hid (hfy.out hq)
        clear hq
        go_wp2_with (at_builtin; refine wpList_app_int rfl _ _ 32 rfl Tryz.underlying32 infoInt rfl HO.out rfl (y := (j : Int)) Seq.way ⟨by omega, by omega⟩ ?_ ?_ ?_ ?_)
        · go_simp
        · omega
        · exact hzz
        · intro ao cap w' hown' hkept
          have H' := Lib.hid hown'
          have HU2 := Lib.hid (seq_beside (HU1.out.at Seq.way) (KeptW.of hkept))
          have K' := Lib.hid (Below.trans HZ.out (Below.trans (Below.mono (Seq.way : Below _ _ _) hzz) hkept.below))
          clear hown' hkept
          go_wp2_with fail
          go_roundw
          case rel => exact ⟨k + 1, hkl, by go_num, Lib.hid (by rw [hy2.out]; simpa using H'.out), HU2, K'⟩
          case measure => simp [intOf]; omega
    · have hkI : ¬ (k : Int) < (l.length : Int) := by omega
      have hke := Lib.hid (show l.take k = l from List.take_of_length_le (by omega))
      have hfin := Lib.hid (show Seq intE (fun b => w.heap.size ≤ b) wr (.slice oa (fltL f (l.take k)).length oc) (natsZ (cmpoL r n)) by
        have h0 := hown.out
        rw [hdef.out]
        rw [hke.out] at h0 ⊢
        have h1 := HBW.out.size
        exact h0.seq (by have := fltL_len f l; omega) fun b _ hb => hb.elim False.elim fun h => by omega)
      clear hkl
      go_wp2_with fail
      go_ret
      exact ⟨_, rfl, below_step hbz.out HBW.out, hfin.out⟩
end
section
open Go Go.RowKit

/-- Has a table other answers, or is it not there? -/
def otherB (t : Tab) : List Tab → Bool
  | [] => true
  | x :: s => if x.call = t.call then !decide (x.ans = t.ans) else otherB t s
theorem otherB_hit {t : Tab} {s : List Tab} {k : Nat} (hk : k < s.length) (hno : ∀ j (hj : j < s.length), j < k → s[j].call ≠ t.call) (h : s[k].call = t.call) : otherB t s = !decide (s[k].ans = t.ans) := by
  induction s generalizing k with
  | nil => simp at hk
  | cons x s ih =>
    cases k with
    | zero => simp only [List.getElem_cons_zero] at h ⊢; unfold otherB; rw [if_pos h]
    | succ k =>
      have h0 : x.call ≠ t.call := by have := hno 0 (by simp) (by omega); simpa using this
      simp only [List.getElem_cons_succ] at h ⊢
      unfold otherB
      rw [if_neg h0]
      exact ih (by simpa using hk) (fun j hj hjk => by have := hno (j + 1) (by simpa using hj) (by omega); simpa using this) h
theorem otherB_miss {t : Tab} {s : List Tab} (hno : ∀ j (hj : j < s.length), s[j].call ≠ t.call) : otherB t s = true := by
  induction s with
  | nil => rfl
  | cons x s ih =>
    have h0 : x.call ≠ t.call := by have := hno 0 (by simp); simpa using this
    unfold otherB
    rw [if_neg h0]
    exact ih fun j hj => by have := hno (j + 1) (by simpa using hj); simpa using this

set_option maxHeartbeats 3200000 in
set_option maxRecDepth 100000 in
theorem otherR_spec {S T : Nat → Prop} {w : World} {v u : Value} {t : Tab} {r : Res} (ht : TabV S w v t) (hr : ResV T w u r) :
    Calls Tryz.prog 72 #[v, u] w (RetV (.bool (otherB t r.tabs)) w) := by
  obtain ⟨ha, hc, la2, lc2, rfl, hTC, hTA⟩ := ht
  obtain ⟨ta, tc, ia, il, ic, la, lc, rfl, hT, hE⟩ := hr
  obtain ⟨W1, hW1⟩ : ∃ W, W = w.alloc (.cells #[.slice ha t.call.length hc, .slice la2 t.ans.length lc2] 45) := ⟨_, rfl⟩
  have HBW1 := Lib.hid (show Below w.heap.size w W1 by rw [hW1]; exact Seq.way)
  have HW1 := Lib.hid hW1
  have hsW1 : W1.heap.size = w.heap.size + 1 := by rw [hW1]; simp
  obtain ⟨b1t, hb1t⟩ : ∃ b, b = w.heap.size := ⟨_, rfl⟩
  have Hb1t := Lib.hid hb1t
  have HRW1 := Lib.hid (show RowA 45 W1 b1t [.slice ha t.call.length hc, .slice la2 t.ans.length lc2] by rw [hW1, show b1t = w.heap.size by omega]; exact Row.new w [_, _] _ rfl)
  have K1 := fun {W' : World} (h : Below W1.heap.size W1 W') => Lib.hid (show W'.cell? ⟨b1t, 0, none⟩ = some (.slice ha t.call.length hc) ∧ W'.cell? ⟨b1t, 1, none⟩ = some (.slice la2 t.ans.length lc2) ∧ b1t < W'.heap.size from
    ⟨(HRW1.out.at h).row.cell (j := 0) (by simp), (HRW1.out.at h).row.cell (j := 1) (by simp), (HRW1.out.at h).row.lt⟩)
  obtain ⟨W, hW⟩ : ∃ W, W = W1.alloc (.cells #[.slice ta r.tabs.length tc, .slice ia il ic, .slice la r.lks.length lc] 26) := ⟨_, rfl⟩
  have HBW := Lib.hid (show Below W1.heap.size W1 W by rw [hW]; exact Seq.way)
  have HW := Lib.hid hW
  have hsW : W.heap.size = W1.heap.size + 1 := by rw [hW]; simp
  obtain ⟨bt, hbt⟩ : ∃ b, b = w.heap.size + 1 := ⟨_, rfl⟩
  have Hbt := Lib.hid hbt
  have HRW := Lib.hid (show RowA 26 W bt [.slice ta r.tabs.length tc, .slice ia il ic, .slice la r.lks.length lc] by rw [hW, show bt = W1.heap.size by omega]; exact Row.new W1 [_, _, _] _ rfl)
  have Kr := fun {W' : World} (h : Below W.heap.size W W') => Lib.hid (show W'.cell? ⟨bt, 0, none⟩ = some (.slice ta r.tabs.length tc) ∧ W'.cell? ⟨bt, 1, none⟩ = some (.slice ia il ic) ∧ W'.cell? ⟨bt, 2, none⟩ = some (.slice la r.lks.length lc) ∧ bt < W'.heap.size from
    ⟨(HRW.out.at h).row.cell (j := 0) (by simp), (HRW.out.at h).row.cell (j := 1) (by simp), (HRW.out.at h).row.cell (j := 2) (by simp), (HRW.out.at h).row.lt⟩)
  have HBw := Lib.hid (below_step HBW.out HBW1.out)
  have HTC := Lib.hid (hTC.at HBw.out)
  have HTA := Lib.hid (hTA.at HBw.out)
  have HT := Lib.hid (hT.at HBw.out)
  have hll : r.tabs.length ≤ 140737488355328 := by obtain ⟨_, _, _, _, _, h, _⟩ := HT.out; exact h
  clear hTC hTA hT hE hW1 hW hb1t hbt hsW1 hsW
  go_enter Tryz.func72, Tryz.ntmps72
  go_upto_region 1 with fail
  rw [← HW1.out, ← HW.out, ← Hbt.out, ← Hb1t.out]
  have Kt := fun {W' : World} (h : Below W.heap.size W W') => K1 (below_step h HBW.out)
  obtain ⟨r0, r1, r2, rl⟩ := (Kr (Below.refl _ W)).out
  obtain ⟨t0, t1, tl⟩ := (Kt (Below.refl _ W)).out
  go_wp2_with fail
  go_loopw [5] (fun i wr => ∃ k : Nat, k ≤ r.tabs.length ∧ i = .int .i64 k ∧ Hid (∀ j (h : j < r.tabs.length), j < k → r.tabs[j].call ≠ t.call) ∧ Drew W wr) (fun i _ => r.tabs.length - (intOf i).toNat)
  case atStart => exact ⟨0, Nat.zero_le _, rfl, Lib.hid (fun i _ h => absurd h (Nat.not_lt_zero _)), Drew.refl _⟩
  case round =>
    obtain ⟨k, hk, rfl, hno, hdr⟩ := hrel
    have hbr := hdr.belowS
    clear r0 r1 r2 rl t0 t1 tl
    obtain ⟨r0, r1, r2, rl⟩ := (Kr hbr).out
    obtain ⟨t0, t1, tl⟩ := (Kt hbr).out
    by_cases hlt : k < r.tabs.length
    · obtain ⟨_, _, ee, -, -, -, -, x5⟩ := HT.out.at hbr
      simp only [Value.slice.injEq, true_and] at ee
      obtain ⟨rfl, rfl⟩ := ee
      obtain ⟨b1, o1, ca, cc, la3, lc3, rfl, -, l1, c0, c1, hC, hA⟩ := x5.tab hlt
      have hy := Lib.hid (fun h : r.tabs[k].call = t.call => otherB_hit hlt hno.out h)
      have hz := Lib.hid (show r.tabs[k].call ≠ t.call → ∀ i (h : i < r.tabs.length), i < k + 1 → r.tabs[i].call ≠ t.call from fun h i hi hlt => by
        by_cases e : i = k
        · subst e; exact h
        · exact hno.out i hi (by omega))
      have HC := Lib.hid hC
      have HA := Lib.hid hA
      obtain ⟨x, hx⟩ : ∃ x, x = r.tabs[k] := ⟨_, rfl⟩
      rw [← hx] at c0 c1 hy hz HC HA
      clear hx x5 hC hA
      have hkl : (k : Int) < (r.tabs.length : Int) := by omega
      have hk0 : (0 : Int) ≤ (k : Int) := by omega
      have hd := Lib.hid hdr
      clear hdr
      go_upto_region 4 with fail
      go_still_tail 8, (by kernel_rfl)
      go_wp2_with fail
      refine (SameT_spec (HC.out.at Seq.way) (HTC.out.at (below_step Seq.way hbr))).mono ?_
      rintro e w1 ⟨rfl, hq⟩
      have Hq1 := Lib.hid (below_step hq.belowS (Seq.way : Below wr.heap.size wr _))
      have hq' := Lib.hid (show Drew W w1 from hd.out.trans (Drew.trans (by repeat (first | exact Drew.refl _ | exact Drew.of _ _ | refine Drew.drewN ?_ _)) hq))
      clear hq
      have hbq := Lib.hid hq'.out.belowS
      clear r0 r1 r2 rl t0 t1 tl
      obtain ⟨r0, r1, r2, rl⟩ := (Kr hbq.out).out
      obtain ⟨t0, t1, tl⟩ := (Kt hbq.out).out
      by_cases he : x.call = t.call
      · have hy' := Lib.hid (hy.out he)
        rw [decide_eq_true he]
        replace c1 : w1.cell? ⟨b1, o1 + k * 2 + 1, none⟩ = _ := (Hq1.out.cell (p := ⟨b1, o1 + k * 2 + 1, none⟩) l1).trans c1
        replace l1 : b1 < w1.heap.size := Nat.lt_of_lt_of_le l1 Hq1.out.size
        clear hy hz he c0
        go_upto_region 5 with fail
        go_still_tail 8, (by kernel_rfl)
        go_wp2_with fail
        refine (SameAll_spec (HA.out.at (below_step Seq.way Hq1.out)) (HTA.out.at (below_step Seq.way hbq.out))).mono ?_
        rintro e w2 ⟨rfl, hq2⟩
        have hq2' := Lib.hid (below_step (below_step hq2.belowS Seq.way) hbq.out)
        clear hq2
        go_wp2_with fail
        go_ret
        exact ⟨ret_bool hy'.out.symm, below_step hq2'.out HBw.out⟩
      · have hz' := Lib.hid (hz.out he)
        rw [decide_eq_false he]
        clear hy hz he
        go_wp2_with fail
        go_roundw
        case rel => exact ⟨k + 1, hlt, by go_num, hz', hq'.out⟩
        case measure => simp [intOf]; omega
    · have hkl : ¬ (k : Int) < (r.tabs.length : Int) := by omega
      have hd := Lib.hid (otherB_miss fun j hj => hno.out j hj (by omega))
      clear hlt hno
      go_wp2_with fail
      go_ret
      exact ⟨ret_bool hd.out.symm, below_step hbr HBw.out⟩

theorem InT_ret {S : Nat → Prop} {w : World} {v : Value} {l : List Int} {n : Int} (hl : Seq intE S w v l) :
    Calls Tryz.prog 22 #[v, .int .i64 n] w (RetV (.bool (decide (n ∈ l))) w) := (InT_spec hl).mono fun _ _ ⟨h1, h2⟩ => ⟨h1, h2 ▸ Below.refl _ _⟩
def otherAt (r now : Res) (n : Int) : Bool := match r.tabs[n.toNat]? with
  | none => false
  | some t => otherB t now.tabs
theorem otherAt_at {r now : Res} {n : Nat} (h : n < r.tabs.length) : otherAt r now (n : Int) = otherB r.tabs[n] now.tabs := by
  unfold otherAt; rw [Int.toNat_natCast, List.getElem?_eq_getElem h]
def lnkAnew (r now : Res) (c : List Int) (e : Int × Int) : Bool := decide (e.1 ∈ c) && !decide (e.2 ∈ c) && otherAt r now e.2
/-- Must a component be evaluated anew? -/
def anewB (r now : Res) (t c : List Int) : Bool := meetB c t || r.lks.any (lnkAnew r now c)
theorem anewB_1 {r now : Res} {t c : List Int} (h : meetB c t = true) : anewB r now t c = true := by unfold anewB; rw [h]; rfl
theorem anewB_2 {r now : Res} {t c : List Int} {k : Nat} (hk : k < r.lks.length) (h : lnkAnew r now c r.lks[k] = true) : anewB r now t c = true := by
  unfold anewB; rw [List.any_eq_true.2 ⟨_, List.getElem_mem hk, h⟩, Bool.or_true]
theorem anewB_3 {r now : Res} {t c : List Int} (h0 : meetB c t = false) (h : ∀ j (hj : j < r.lks.length), lnkAnew r now c r.lks[j] = false) : anewB r now t c = false := by
  unfold anewB; rw [h0, Bool.false_or, List.any_eq_false]
  intro x hx
  obtain ⟨j, hj, rfl⟩ := List.mem_iff_getElem.1 hx
  rw [h j hj]; simp

set_option maxHeartbeats 6400000 in
set_option maxRecDepth 100000 in
theorem anewR_spec {S T S1 S2 : Nat → Prop} {w : World} {v u x y : Value} {r now : Res} {t c : List Int} (hr : ResV S w v r) (hn : ResV T w u now) (ht : Seq intE S1 w x t) (hc : Seq intE S2 w y c) (hrg : RngR r) :
    Calls Tryz.prog 45 #[v, u, x, y] w (RetV (.bool (anewB r now t c)) w) := by
  obtain ⟨ta, tc, ia, il, ic, la, lc, rfl, hT, hE⟩ := hr
  obtain ⟨na, nc, ja, jl, jc, ma, mc, rfl, hN, hM⟩ := hn
  obtain ⟨W1, hW1⟩ : ∃ W, W = w.alloc (.cells #[.slice ta r.tabs.length tc, .slice ia il ic, .slice la r.lks.length lc] 26) := ⟨_, rfl⟩
  have HBW1 := Lib.hid (show Below w.heap.size w W1 by rw [hW1]; exact Seq.way)
  have HW1 := Lib.hid hW1
  have hsW1 : W1.heap.size = w.heap.size + 1 := by rw [hW1]; simp
  obtain ⟨b1t, hb1t⟩ : ∃ b, b = w.heap.size := ⟨_, rfl⟩
  have Hb1t := Lib.hid hb1t
  have HRW1 := Lib.hid (show RowA 26 W1 b1t [.slice ta r.tabs.length tc, .slice ia il ic, .slice la r.lks.length lc] by rw [hW1, show b1t = w.heap.size by omega]; exact Row.new w [_, _, _] _ rfl)
  have K1 := fun {W' : World} (h : Below W1.heap.size W1 W') => Lib.hid (show W'.cell? ⟨b1t, 0, none⟩ = some (.slice ta r.tabs.length tc) ∧ W'.cell? ⟨b1t, 1, none⟩ = some (.slice ia il ic) ∧ W'.cell? ⟨b1t, 2, none⟩ = some (.slice la r.lks.length lc) ∧ b1t < W'.heap.size from
    ⟨(HRW1.out.at h).row.cell (j := 0) (by simp), (HRW1.out.at h).row.cell (j := 1) (by simp), (HRW1.out.at h).row.cell (j := 2) (by simp), (HRW1.out.at h).row.lt⟩)
  obtain ⟨W, hW⟩ : ∃ W, W = W1.alloc (.cells #[.slice na now.tabs.length nc, .slice ja jl jc, .slice ma now.lks.length mc] 26) := ⟨_, rfl⟩
  have HBW := Lib.hid (show Below W1.heap.size W1 W by rw [hW]; exact Seq.way)
  have HW := Lib.hid hW
  have hsW : W.heap.size = W1.heap.size + 1 := by rw [hW]; simp
  obtain ⟨bt, hbt⟩ : ∃ b, b = w.heap.size + 1 := ⟨_, rfl⟩
  have Hbt := Lib.hid hbt
  have HRW := Lib.hid (show RowA 26 W bt [.slice na now.tabs.length nc, .slice ja jl jc, .slice ma now.lks.length mc] by rw [hW, show bt = W1.heap.size by omega]; exact Row.new W1 [_, _, _] _ rfl)
  have Kn := fun {W' : World} (h : Below W.heap.size W W') => Lib.hid (show W'.cell? ⟨bt, 0, none⟩ = some (.slice na now.tabs.length nc) ∧ W'.cell? ⟨bt, 1, none⟩ = some (.slice ja jl jc) ∧ W'.cell? ⟨bt, 2, none⟩ = some (.slice ma now.lks.length mc) ∧ bt < W'.heap.size from
    ⟨(HRW.out.at h).row.cell (j := 0) (by simp), (HRW.out.at h).row.cell (j := 1) (by simp), (HRW.out.at h).row.cell (j := 2) (by simp), (HRW.out.at h).row.lt⟩)
  have HBw := Lib.hid (below_step HBW.out HBW1.out)
  have HT := Lib.hid (hT.at HBw.out)
  have HE := Lib.hid (hE.at HBw.out)
  have HN := Lib.hid (hN.at HBw.out)
  have HM := Lib.hid (hM.at HBw.out)
  have HTT := Lib.hid (ht.at HBw.out)
  have HCC := Lib.hid (hc.at HBw.out)
  have hll : r.lks.length ≤ 140737488355328 := by obtain ⟨_, _, _, _, _, h, _⟩ := HE.out; exact h
  have Hrg := Lib.hid hrg
  obtain ⟨xa, xc, rfl⟩ := ht.shape
  obtain ⟨ya, yc, rfl⟩ := hc.shape
  clear hT hE hN hM ht hc hrg hW1 hW hb1t hbt hsW1 hsW
  go_enter Tryz.func45, Tryz.ntmps45
  go_upto_region 1 with fail
  rw [← HW1.out, ← HW.out, ← Hbt.out, ← Hb1t.out]
  have Kt := fun {W' : World} (h : Below W.heap.size W W') => K1 (below_step h HBW.out)
  obtain ⟨n0, n1, n2, nl⟩ := (Kn (Below.refl _ W)).out
  obtain ⟨r0, r1, r2, rl⟩ := (Kt (Below.refl _ W)).out
  go_wp2_with fail
  refine (meetR_spec HCC.out HTT.out).mono ?_
  rintro e _ ⟨rfl, rfl⟩
  cases hm : meetB c t with
  | true =>
    have hd := Lib.hid (anewB_1 (r := r) (now := now) hm)
    clear hm
    go_wp2_with fail
    go_ret
    exact ⟨ret_bool hd.out.symm, HBw.out⟩
  | false =>
    have Hm := Lib.hid hm
    clear hm
    go_wp2_with fail
    go_loopw [9] (fun i wr => ∃ k : Nat, k ≤ r.lks.length ∧ i = .int .i64 k ∧ Hid (∀ j (h : j < r.lks.length), j < k → lnkAnew r now c r.lks[j] = false) ∧ Hid (Below W.heap.size W wr)) (fun i _ => r.lks.length - (intOf i).toNat)
    case atStart => exact ⟨0, Nat.zero_le _, rfl, Lib.hid (fun i _ h => absurd h (Nat.not_lt_zero _)), Lib.hid (Below.refl _ _)⟩
    case round =>
      obtain ⟨k, hk, rfl, hno, hbr⟩ := hrel
      clear r0 r1 r2 rl n0 n1 n2 nl
      obtain ⟨n0, n1, n2, nl⟩ := (Kn hbr.out).out
      obtain ⟨r0, r1, r2, rl⟩ := (Kt hbr.out).out
      by_cases hlt : k < r.lks.length
      · obtain ⟨_, _, ee, -, -, -, -, x5⟩ := HE.out.at hbr.out
        simp only [Value.slice.injEq, true_and] at ee
        obtain ⟨rfl, rfl⟩ := ee
        obtain ⟨b1, o1, rfl, -, l1, c0, c1, ok1, ok2⟩ := x5.edg hlt
        have hy := Lib.hid (fun h : lnkAnew r now c r.lks[k] = true => anewB_2 (t := t) hlt h)
        have hz := Lib.hid (show lnkAnew r now c r.lks[k] = false → ∀ i (h : i < r.lks.length), i < k + 1 → lnkAnew r now c r.lks[i] = false from fun h i hi hlt => by
          by_cases e : i = k
          · subst e; exact h
          · exact hno.out i hi (by omega))
        obtain ⟨q1, q2, q3, q4⟩ := Hrg.out _ (List.getElem_mem hlt)
        have hqd := Lib.hid (show lnkAnew r now c r.lks[k] = (decide (r.lks[k].1 ∈ c) && !decide (r.lks[k].2 ∈ c) && otherAt r now r.lks[k].2) from rfl)
        obtain ⟨q, hq⟩ : ∃ q, q = lnkAnew r now c r.lks[k] := ⟨_, rfl⟩
        rw [← hq] at hy hz hqd
        obtain ⟨⟨ea, eb⟩, hee⟩ : ∃ e, e = r.lks[k] := ⟨_, rfl⟩
        simp only [← hee] at c0 c1 q1 q2 q3 q4 hqd
        have hkl : (k : Int) < (r.lks.length : Int) := by omega
        have hk0 : (0 : Int) ≤ (k : Int) := by omega
        clear hee hq x5 ok1 ok2
        go_upto_region 7 with fail
        obtain ⟨nb, rfl⟩ : ∃ nb : Nat, eb = (nb : Int) := ⟨eb.toNat, by omega⟩
        obtain ⟨W2, hW2⟩ : ∃ W, W = wr.alloc (.cells #[.int .i64 ea, .int .i64 (nb : Int)] 48) := ⟨_, rfl⟩
        have HBW2 := Lib.hid (show Below wr.heap.size wr W2 by rw [hW2]; exact Seq.way)
        have HW2 := Lib.hid hW2
        have hsW2 : W2.heap.size = wr.heap.size + 1 := by rw [hW2]; simp
        obtain ⟨bq, hbq⟩ : ∃ b, b = wr.heap.size := ⟨_, rfl⟩
        have Hbq := Lib.hid hbq
        have HRW2 := Lib.hid (show RowA 48 W2 bq [.int .i64 ea, .int .i64 (nb : Int)] by rw [hW2, show bq = wr.heap.size by omega]; exact Row.new wr [_, _] _ rfl)
        have Kb := fun {W' : World} (h : Below W2.heap.size W2 W') => Lib.hid (show W'.cell? ⟨bq, 0, none⟩ = some (.int .i64 ea) ∧ W'.cell? ⟨bq, 1, none⟩ = some (.int .i64 (nb : Int)) ∧ bq < W'.heap.size from
          ⟨(HRW2.out.at h).row.cell (j := 0) (by simp), (HRW2.out.at h).row.cell (j := 1) (by simp), (HRW2.out.at h).row.lt⟩)
        have hrw : wr.heap.size = bq := Hbq.out.symm
        rw [← HW2.out, hrw]
        have HbW := Lib.hid (below_step HBW2.out hbr.out)
        obtain ⟨_, _, ee, -, -, -, -, x6⟩ := HT.out.at HbW.out
        simp only [Value.slice.injEq, true_and] at ee
        obtain ⟨rfl, rfl⟩ := ee
        obtain ⟨b2, o2, ca, cc, aa, ac, rfl, -, l2, f0, f1, hTC, hTA⟩ := x6.tab (k := nb) (by omega)
        have hat := Lib.hid (otherAt_at (r := r) (now := now) (n := nb) (by omega))
        have HTC := Lib.hid hTC
        have HTA := Lib.hid hTA
        obtain ⟨tt, htt⟩ : ∃ x, x = r.tabs[nb]'(by omega) := ⟨_, rfl⟩
        rw [← htt] at f0 f1 HTC HTA hat
        have h3 := Lib.hid (fun (W' : World) (h : Below W2.heap.size W2 W') => otherR_spec (w := W') (t := tt) (r := now) ⟨ca, cc, aa, ac, rfl, HTC.out.at h, HTA.out.at h⟩ (ResV.mk (ia := ja) (il := jl) (ic := jc) (HN.out.at (below_step h HbW.out)) (HM.out.at (below_step h HbW.out))))
        have h1 := Lib.hid (fun (W' : World) (h : Below W2.heap.size W2 W') => InT_ret (w := W') (n := ea) (HCC.out.at (below_step h HbW.out)))
        have h2 := Lib.hid (fun (W' : World) (h : Below W2.heap.size W2 W') => InT_ret (w := W') (n := (nb : Int)) (HCC.out.at (below_step h HbW.out)))
        have hnI : (nb : Int) < (r.tabs.length : Int) := q4
        have hn0 : (0 : Int) ≤ (nb : Int) := by omega
        have Kq := fun {W' : World} (h : Below W2.heap.size W2 W') => Lib.hid (show W'.cell? ⟨bq, 0, none⟩ = some (.int .i64 ea) ∧ W'.cell? ⟨bq, 1, none⟩ = some (.int .i64 (nb : Int)) ∧ W'.cell? ⟨b1t, 0, none⟩ = some (.slice (some ⟨b2, o2, none⟩) r.tabs.length tc) ∧ W'.cell? ⟨b2, o2 + nb * 2, none⟩ = some (.slice ca tt.call.length cc) ∧ W'.cell? ⟨b2, o2 + nb * 2 + 1, none⟩ = some (.slice aa tt.ans.length ac) ∧ W'.cell? ⟨bt, 0, none⟩ = some (.slice na now.tabs.length nc) ∧ W'.cell? ⟨bt, 1, none⟩ = some (.slice ja jl jc) ∧ W'.cell? ⟨bt, 2, none⟩ = some (.slice ma now.lks.length mc) from
          ⟨(Kb h).out.1, (Kb h).out.2.1, ((Kt (below_step h HbW.out)).out).1, (h.cell (p := ⟨b2, o2 + nb * 2, none⟩) l2).trans f0, (h.cell (p := ⟨b2, o2 + nb * 2 + 1, none⟩) l2).trans f1, ((Kn (below_step h HbW.out)).out).1, ((Kn (below_step h HbW.out)).out).2.1, ((Kn (below_step h HbW.out)).out).2.2.1⟩)
        obtain ⟨da, hda⟩ : ∃ d, d = decide (ea ∈ c) := ⟨_, rfl⟩
        obtain ⟨db, hdb⟩ : ∃ d, d = decide ((nb : Int) ∈ c) := ⟨_, rfl⟩
        obtain ⟨dc, hdc⟩ : ∃ d, d = otherB tt now.tabs := ⟨_, rfl⟩
        rw [← hdb, hat.out, ← hdc, ← hda] at hqd
        rw [← hda] at h1
        rw [← hdb] at h2
        rw [← hdc] at h3
        clear hda hdb hdc hat htt x6 hTC hTA f0 f1 hsW2 hbq hW2 r0 r1 r2 rl n0 n1 n2 nl c0 c1 q1 q2 q3 q4 hrw
        cases da with
        | false =>
          have hz' := Lib.hid (hz.out (by rw [hqd.out]; rfl))
          clear hy hz hqd h2 h3
          (try simp only [List.append_eq, List.cons_append, List.nil_append])
          refine wp_region_noPanic ?_
          refine wp_region_held_drew (S := fun w' => w'.cell? ⟨bq, 0, none⟩ = some (.int .i64 ea) ∧ w'.cell? ⟨bq, 1, none⟩ = some (.int .i64 (nb : Int)) ∧ w'.cell? ⟨b1t, 0, none⟩ = some (.slice (some ⟨b2, o2, none⟩) r.tabs.length tc) ∧ w'.cell? ⟨b2, o2 + nb * 2, none⟩ = some (.slice ca tt.call.length cc) ∧ w'.cell? ⟨b2, o2 + nb * 2 + 1, none⟩ = some (.slice aa tt.ans.length ac) ∧ w'.cell? ⟨bt, 0, none⟩ = some (.slice na now.tabs.length nc) ∧ w'.cell? ⟨bt, 1, none⟩ = some (.slice ja jl jc) ∧ w'.cell? ⟨bt, 2, none⟩ = some (.slice ma now.lks.length mc)) (by kernel_rfl) ?_ (fun hHeld => ?_)
          · exact (Kq (Below.drew (Below.refl _ _))).out
          refine wpAnyH_take1 (i := 0) (oi := _) (v := ?_) (by kernel_rfl) rfl (by kernel_rfl) (fun _ _ _ h => h) (Or.inl ⟨by rfl, ?_⟩) (by assumption) ?_
          rotate_left 1
          · intro w hSw; (try dsimp only at hSw); go_simp; (with_reducible rfl)
          (try simp only [Act.put, List.getElem_toArray, List.getElem_cons_zero, List.setIfInBounds_toArray, List.set_cons_zero, List.set_cons_succ])
          refine wpAnyH_take1 (i := 1) (oi := _) (v := ?_) (by kernel_rfl) rfl (by kernel_rfl) (fun _ _ _ h => h) (Or.inl ⟨by rfl, ?_⟩) (by assumption) ?_
          rotate_left 1
          · intro w hSw; (try dsimp only at hSw); go_simp; (with_reducible rfl)
          (try simp only [Act.put, List.getElem_toArray, List.getElem_cons_zero, List.getElem_cons_succ, List.setIfInBounds_toArray, List.set_cons_zero, List.set_cons_succ])
          refine wpAnyH_take1 (i := 2) (oi := _) (v := ?_) (by kernel_rfl) rfl (by kernel_rfl) (fun _ _ _ h => h) (Or.inl ⟨by rfl, ?_⟩) (by assumption) ?_
          rotate_left 1
          · intro w hSw; (try dsimp only at hSw); go_simp; (with_reducible rfl)
          (try simp only [Act.put, List.getElem_toArray, List.getElem_cons_zero, List.getElem_cons_succ, List.setIfInBounds_toArray, List.set_cons_zero, List.set_cons_succ])
          refine wpAnyH_one (i := 3) (by kernel_rfl) rfl (by rfl) fun K hK => ?_
          go_simp
          refine (h1.out _ Seq.way).mono ?_
          rintro e y1 ⟨rfl, hy1⟩
          have HY1 := below_step hy1 (Seq.way : Below W2.heap.size W2 _)
          have zy1 := HY1.size
          (try dsimp only)
          clear hHeld
          refine hK.out _ _ (Kq HY1).out fun hHeld => ?_
          clear hK K
          (try simp only [Act.put, List.getElem_toArray, List.getElem_cons_zero, List.getElem_cons_succ, List.setIfInBounds_toArray, List.set_cons_zero, List.set_cons_succ])
          refine wpAnyH_take1 (i := 4) (oi := _) (v := ?_) (by kernel_rfl) rfl (by kernel_rfl) (fun _ _ _ h => h) (Or.inl ⟨by rfl, ?_⟩) (by assumption) ?_
          rotate_left 1
          · intro w hSw; (try dsimp only at hSw); go_simp; (with_reducible rfl)
          (try simp only [Act.put, List.getElem_toArray, List.getElem_cons_zero, List.getElem_cons_succ, List.setIfInBounds_toArray, List.set_cons_zero, List.set_cons_succ])
          refine wpAnyH_take1 (i := 5) (oi := _) (v := undef) (by kernel_rfl) rfl (by kernel_rfl) (fun _ _ _ h => h) (Or.inr ⟨by rfl, rfl⟩) (by assumption) ?_
          (try simp only [Act.put, List.getElem_toArray, List.getElem_cons_zero, List.getElem_cons_succ, List.setIfInBounds_toArray, List.set_cons_zero, List.set_cons_succ])
          refine wpAnyH_take1 (i := 6) (oi := _) (v := undef) (by kernel_rfl) rfl (by kernel_rfl) (fun _ _ _ h => h) (Or.inr ⟨by rfl, rfl⟩) (by assumption) ?_
          (try simp only [Act.put, List.getElem_toArray, List.getElem_cons_zero, List.getElem_cons_succ, List.setIfInBounds_toArray, List.set_cons_zero, List.set_cons_succ])
          refine wpAnyH_take1 (i := 7) (oi := _) (v := undef) (by kernel_rfl) rfl (by kernel_rfl) (fun _ _ _ h => h) (Or.inr ⟨by rfl, rfl⟩) (by assumption) ?_
          (try simp only [Act.put, List.getElem_toArray, List.getElem_cons_zero, List.getElem_cons_succ, List.setIfInBounds_toArray, List.set_cons_zero, List.set_cons_succ])
          refine wpAnyH_take1 (i := 8) (oi := _) (v := undef) (by kernel_rfl) rfl (by kernel_rfl) (fun _ _ _ h => h) (Or.inr ⟨by rfl, rfl⟩) (by assumption) ?_
          (try simp only [Act.put, List.getElem_toArray, List.getElem_cons_zero, List.getElem_cons_succ, List.setIfInBounds_toArray, List.set_cons_zero, List.set_cons_succ])
          refine wpAnyH_take1 (i := 9) (oi := _) (v := undef) (by kernel_rfl) rfl (by kernel_rfl) (fun _ _ _ h => h) (Or.inr ⟨by rfl, rfl⟩) (by assumption) ?_
          (try simp only [Act.put, List.getElem_toArray, List.getElem_cons_zero, List.getElem_cons_succ, List.setIfInBounds_toArray, List.set_cons_zero, List.set_cons_succ])
          refine wpAnyH_take1 (i := 10) (oi := _) (v := ?_) (by kernel_rfl) rfl (by kernel_rfl) (fun _ _ _ h => h) (Or.inl ⟨by rfl, ?_⟩) (by assumption) ?_
          rotate_left 1
          · intro w hSw; (try dsimp only at hSw); go_simp; (with_reducible rfl)
          (try simp only [Act.put, List.getElem_toArray, List.getElem_cons_zero, List.getElem_cons_succ, List.setIfInBounds_toArray, List.set_cons_zero, List.set_cons_succ])
          refine wpAnyH_take1 (i := 11) (oi := _) (v := ?_) (by kernel_rfl) rfl (by kernel_rfl) (fun _ _ _ h => h) (Or.inl ⟨by rfl, ?_⟩) (by assumption) ?_
          rotate_left 1
          · intro w hSw; (try dsimp only at hSw); go_simp; (with_reducible rfl)
          (try simp only [Act.put, List.getElem_toArray, List.getElem_cons_zero, List.getElem_cons_succ, List.setIfInBounds_toArray, List.set_cons_zero, List.set_cons_succ])
          refine wpAnyH_take1 (i := 12) (oi := _) (v := undef) (by kernel_rfl) rfl (by kernel_rfl) (fun _ _ _ h => h) (Or.inr ⟨by rfl, rfl⟩) (by assumption) ?_
          (try simp only [Act.put, List.getElem_toArray, List.getElem_cons_zero, List.getElem_cons_succ, List.setIfInBounds_toArray, List.set_cons_zero, List.set_cons_succ])
          refine wpAnyH_take1 (i := 13) (oi := _) (v := undef) (by kernel_rfl) rfl (by kernel_rfl) (fun _ _ _ h => h) (Or.inr ⟨by rfl, rfl⟩) (by assumption) ?_
          (try simp only [Act.put, List.getElem_toArray, List.getElem_cons_zero, List.getElem_cons_succ, List.setIfInBounds_toArray, List.set_cons_zero, List.set_cons_succ])
          refine wpAnyH_take1 (i := 14) (oi := _) (v := undef) (by kernel_rfl) rfl (by kernel_rfl) (fun _ _ _ h => h) (Or.inr ⟨by rfl, rfl⟩) (by assumption) ?_
          (try simp only [Act.put, List.getElem_toArray, List.getElem_cons_zero, List.getElem_cons_succ, List.setIfInBounds_toArray, List.set_cons_zero, List.set_cons_succ])
          refine wpAnyH_take1 (i := 15) (oi := _) (v := undef) (by kernel_rfl) rfl (by kernel_rfl) (fun _ _ _ h => h) (Or.inr ⟨by rfl, rfl⟩) (by assumption) ?_
          (try simp only [Act.put, List.getElem_toArray, List.getElem_cons_zero, List.getElem_cons_succ, List.setIfInBounds_toArray, List.set_cons_zero, List.set_cons_succ])
          refine wpAnyH_take1 (i := 16) (oi := _) (v := undef) (by kernel_rfl) rfl (by kernel_rfl) (fun _ _ _ h => h) (Or.inr ⟨by rfl, rfl⟩) (by assumption) ?_
          (try simp only [Act.put, List.getElem_toArray, List.getElem_cons_zero, List.getElem_cons_succ, List.setIfInBounds_toArray, List.set_cons_zero, List.set_cons_succ])
          refine wpAnyH_take1 (i := 17) (oi := _) (v := undef) (by kernel_rfl) rfl (by kernel_rfl) (fun _ _ _ h => h) (Or.inr ⟨by rfl, rfl⟩) (by assumption) ?_
          (try simp only [Act.put, List.getElem_toArray, List.getElem_cons_zero, List.getElem_cons_succ, List.setIfInBounds_toArray, List.set_cons_zero, List.set_cons_succ])
          refine wpAnyH_take1 (i := 18) (oi := _) (v := undef) (by kernel_rfl) rfl (by kernel_rfl) (fun _ _ _ h => h) (Or.inr ⟨by rfl, rfl⟩) (by assumption) ?_
          (try simp only [Act.put, List.getElem_toArray, List.getElem_cons_zero, List.getElem_cons_succ, List.setIfInBounds_toArray, List.set_cons_zero, List.set_cons_succ])
          refine wpAnyH_take1 (i := 19) (oi := _) (v := undef) (by kernel_rfl) rfl (by kernel_rfl) (fun _ _ _ h => h) (Or.inr ⟨by rfl, rfl⟩) (by assumption) ?_
          (try simp only [Act.put, List.getElem_toArray, List.getElem_cons_zero, List.getElem_cons_succ, List.setIfInBounds_toArray, List.set_cons_zero, List.set_cons_succ])
          refine wpAnyH_take1 (i := 20) (oi := _) (v := ?_) (by kernel_rfl) rfl (by kernel_rfl) (fun _ _ _ h => h) (Or.inl ⟨by rfl, ?_⟩) (by assumption) ?_
          rotate_left 1
          · intro w hSw; (try dsimp only at hSw); go_simp; (with_reducible rfl)
          (try simp only [Act.put, List.getElem_toArray, List.getElem_cons_zero, List.getElem_cons_succ, List.setIfInBounds_toArray, List.set_cons_zero, List.set_cons_succ])
          refine wpAnyH_done (by kernel_rfl) ?_ _
          refine NoPanic.normal ?_
          have HF := Lib.hid (below_step HY1 HbW.out)
          go_wp2_with fail
          go_roundw
          case rel => exact ⟨k + 1, hlt, by go_num, hz', HF⟩
          case measure => simp [intOf]; omega
        | true =>
          cases db with
          | true =>
            have hz' := Lib.hid (hz.out (by rw [hqd.out]; rfl))
            clear hy hz hqd h3
            (try simp only [List.append_eq, List.cons_append, List.nil_append])
            refine wp_region_noPanic ?_
            refine wp_region_held_drew (S := fun w' => w'.cell? ⟨bq, 0, none⟩ = some (.int .i64 ea) ∧ w'.cell? ⟨bq, 1, none⟩ = some (.int .i64 (nb : Int)) ∧ w'.cell? ⟨b1t, 0, none⟩ = some (.slice (some ⟨b2, o2, none⟩) r.tabs.length tc) ∧ w'.cell? ⟨b2, o2 + nb * 2, none⟩ = some (.slice ca tt.call.length cc) ∧ w'.cell? ⟨b2, o2 + nb * 2 + 1, none⟩ = some (.slice aa tt.ans.length ac) ∧ w'.cell? ⟨bt, 0, none⟩ = some (.slice na now.tabs.length nc) ∧ w'.cell? ⟨bt, 1, none⟩ = some (.slice ja jl jc) ∧ w'.cell? ⟨bt, 2, none⟩ = some (.slice ma now.lks.length mc)) (by kernel_rfl) ?_ (fun hHeld => ?_)
            · exact (Kq (Below.drew (Below.refl _ _))).out
            refine wpAnyH_take1 (i := 0) (oi := _) (v := ?_) (by kernel_rfl) rfl (by kernel_rfl) (fun _ _ _ h => h) (Or.inl ⟨by rfl, ?_⟩) (by assumption) ?_
            rotate_left 1
            · intro w hSw; (try dsimp only at hSw); go_simp; (with_reducible rfl)
            (try simp only [Act.put, List.getElem_toArray, List.getElem_cons_zero, List.setIfInBounds_toArray, List.set_cons_zero, List.set_cons_succ])
            refine wpAnyH_take1 (i := 1) (oi := _) (v := ?_) (by kernel_rfl) rfl (by kernel_rfl) (fun _ _ _ h => h) (Or.inl ⟨by rfl, ?_⟩) (by assumption) ?_
            rotate_left 1
            · intro w hSw; (try dsimp only at hSw); go_simp; (with_reducible rfl)
            (try simp only [Act.put, List.getElem_toArray, List.getElem_cons_zero, List.getElem_cons_succ, List.setIfInBounds_toArray, List.set_cons_zero, List.set_cons_succ])
            refine wpAnyH_take1 (i := 2) (oi := _) (v := ?_) (by kernel_rfl) rfl (by kernel_rfl) (fun _ _ _ h => h) (Or.inl ⟨by rfl, ?_⟩) (by assumption) ?_
            rotate_left 1
            · intro w hSw; (try dsimp only at hSw); go_simp; (with_reducible rfl)
            (try simp only [Act.put, List.getElem_toArray, List.getElem_cons_zero, List.getElem_cons_succ, List.setIfInBounds_toArray, List.set_cons_zero, List.set_cons_succ])
            refine wpAnyH_one (i := 3) (by kernel_rfl) rfl (by rfl) fun K hK => ?_
            go_simp
            refine (h1.out _ Seq.way).mono ?_
            rintro e y1 ⟨rfl, hy1⟩
            have HY1 := below_step hy1 (Seq.way : Below W2.heap.size W2 _)
            have zy1 := HY1.size
            (try dsimp only)
            clear hHeld
            refine hK.out _ _ (Kq HY1).out fun hHeld => ?_
            clear hK K
            (try simp only [Act.put, List.getElem_toArray, List.getElem_cons_zero, List.getElem_cons_succ, List.setIfInBounds_toArray, List.set_cons_zero, List.set_cons_succ])
            refine wpAnyH_take1 (i := 4) (oi := _) (v := ?_) (by kernel_rfl) rfl (by kernel_rfl) (fun _ _ _ h => h) (Or.inl ⟨by rfl, ?_⟩) (by assumption) ?_
            rotate_left 1
            · intro w hSw; (try dsimp only at hSw); go_simp; (with_reducible rfl)
            (try simp only [Act.put, List.getElem_toArray, List.getElem_cons_zero, List.getElem_cons_succ, List.setIfInBounds_toArray, List.set_cons_zero, List.set_cons_succ])
            refine wpAnyH_take1 (i := 5) (oi := _) (v := ?_) (by kernel_rfl) rfl (by kernel_rfl) (fun _ _ _ h => h) (Or.inl ⟨by rfl, ?_⟩) (by assumption) ?_
            rotate_left 1
            · intro w hSw; (try dsimp only at hSw); go_simp; (with_reducible rfl)
            (try simp only [Act.put, List.getElem_toArray, List.getElem_cons_zero, List.getElem_cons_succ, List.setIfInBounds_toArray, List.set_cons_zero, List.set_cons_succ])
            refine wpAnyH_take1 (i := 6) (oi := _) (v := ?_) (by kernel_rfl) rfl (by kernel_rfl) (fun _ _ _ h => h) (Or.inl ⟨by rfl, ?_⟩) (by assumption) ?_
            rotate_left 1
            · intro w hSw; (try dsimp only at hSw); go_simp; (with_reducible rfl)
            (try simp only [Act.put, List.getElem_toArray, List.getElem_cons_zero, List.getElem_cons_succ, List.setIfInBounds_toArray, List.set_cons_zero, List.set_cons_succ])
            refine wpAnyH_take1 (i := 7) (oi := _) (v := ?_) (by kernel_rfl) rfl (by kernel_rfl) (fun _ _ _ h => h) (Or.inl ⟨by rfl, ?_⟩) (by assumption) ?_
            rotate_left 1
            · intro w hSw; (try dsimp only at hSw); go_simp; (with_reducible rfl)
            (try simp only [Act.put, List.getElem_toArray, List.getElem_cons_zero, List.getElem_cons_succ, List.setIfInBounds_toArray, List.set_cons_zero, List.set_cons_succ])
            refine wpAnyH_one (i := 8) (by kernel_rfl) rfl (by rfl) fun K hK => ?_
            go_simp
            refine (h2.out _ Seq.way).mono ?_
            rintro e y2 ⟨rfl, hy2⟩
            have HY2 := below_step hy2 (Seq.way : Below W2.heap.size W2 _)
            have zy2 := HY2.size
            (try dsimp only)
            clear hHeld
            refine hK.out _ _ (Kq HY2).out fun hHeld => ?_
            clear hK K
            (try simp only [Act.put, List.getElem_toArray, List.getElem_cons_zero, List.getElem_cons_succ, List.setIfInBounds_toArray, List.set_cons_zero, List.set_cons_succ])
            refine wpAnyH_take1 (i := 9) (oi := _) (v := ?_) (by kernel_rfl) rfl (by kernel_rfl) (fun _ _ _ h => h) (Or.inl ⟨by rfl, ?_⟩) (by assumption) ?_
            rotate_left 1
            · intro w hSw; (try dsimp only at hSw); go_simp; (with_reducible rfl)
            (try simp only [Act.put, List.getElem_toArray, List.getElem_cons_zero, List.getElem_cons_succ, List.setIfInBounds_toArray, List.set_cons_zero, List.set_cons_succ])
            refine wpAnyH_take1 (i := 10) (oi := _) (v := ?_) (by kernel_rfl) rfl (by kernel_rfl) (fun _ _ _ h => h) (Or.inl ⟨by rfl, ?_⟩) (by assumption) ?_
            rotate_left 1
            · intro w hSw; (try dsimp only at hSw); go_simp; (with_reducible rfl)
            (try simp only [Act.put, List.getElem_toArray, List.getElem_cons_zero, List.getElem_cons_succ, List.setIfInBounds_toArray, List.set_cons_zero, List.set_cons_succ])
            refine wpAnyH_take1 (i := 11) (oi := _) (v := ?_) (by kernel_rfl) rfl (by kernel_rfl) (fun _ _ _ h => h) (Or.inl ⟨by rfl, ?_⟩) (by assumption) ?_
            rotate_left 1
            · intro w hSw; (try dsimp only at hSw); go_simp; (with_reducible rfl)
            (try simp only [Act.put, List.getElem_toArray, List.getElem_cons_zero, List.getElem_cons_succ, List.setIfInBounds_toArray, List.set_cons_zero, List.set_cons_succ])
            refine wpAnyH_take1 (i := 12) (oi := _) (v := undef) (by kernel_rfl) rfl (by kernel_rfl) (fun _ _ _ h => h) (Or.inr ⟨by rfl, rfl⟩) (by assumption) ?_
            (try simp only [Act.put, List.getElem_toArray, List.getElem_cons_zero, List.getElem_cons_succ, List.setIfInBounds_toArray, List.set_cons_zero, List.set_cons_succ])
            refine wpAnyH_take1 (i := 13) (oi := _) (v := undef) (by kernel_rfl) rfl (by kernel_rfl) (fun _ _ _ h => h) (Or.inr ⟨by rfl, rfl⟩) (by assumption) ?_
            (try simp only [Act.put, List.getElem_toArray, List.getElem_cons_zero, List.getElem_cons_succ, List.setIfInBounds_toArray, List.set_cons_zero, List.set_cons_succ])
            refine wpAnyH_take1 (i := 14) (oi := _) (v := undef) (by kernel_rfl) rfl (by kernel_rfl) (fun _ _ _ h => h) (Or.inr ⟨by rfl, rfl⟩) (by assumption) ?_
            (try simp only [Act.put, List.getElem_toArray, List.getElem_cons_zero, List.getElem_cons_succ, List.setIfInBounds_toArray, List.set_cons_zero, List.set_cons_succ])
            refine wpAnyH_take1 (i := 15) (oi := _) (v := undef) (by kernel_rfl) rfl (by kernel_rfl) (fun _ _ _ h => h) (Or.inr ⟨by rfl, rfl⟩) (by assumption) ?_
            (try simp only [Act.put, List.getElem_toArray, List.getElem_cons_zero, List.getElem_cons_succ, List.setIfInBounds_toArray, List.set_cons_zero, List.set_cons_succ])
            refine wpAnyH_take1 (i := 16) (oi := _) (v := undef) (by kernel_rfl) rfl (by kernel_rfl) (fun _ _ _ h => h) (Or.inr ⟨by rfl, rfl⟩) (by assumption) ?_
            (try simp only [Act.put, List.getElem_toArray, List.getElem_cons_zero, List.getElem_cons_succ, List.setIfInBounds_toArray, List.set_cons_zero, List.set_cons_succ])
            refine wpAnyH_take1 (i := 17) (oi := _) (v := undef) (by kernel_rfl) rfl (by kernel_rfl) (fun _ _ _ h => h) (Or.inr ⟨by rfl, rfl⟩) (by assumption) ?_
            (try simp only [Act.put, List.getElem_toArray, List.getElem_cons_zero, List.getElem_cons_succ, List.setIfInBounds_toArray, List.set_cons_zero, List.set_cons_succ])
            refine wpAnyH_take1 (i := 18) (oi := _) (v := undef) (by kernel_rfl) rfl (by kernel_rfl) (fun _ _ _ h => h) (Or.inr ⟨by rfl, rfl⟩) (by assumption) ?_
            (try simp only [Act.put, List.getElem_toArray, List.getElem_cons_zero, List.getElem_cons_succ, List.setIfInBounds_toArray, List.set_cons_zero, List.set_cons_succ])
            refine wpAnyH_take1 (i := 19) (oi := _) (v := undef) (by kernel_rfl) rfl (by kernel_rfl) (fun _ _ _ h => h) (Or.inr ⟨by rfl, rfl⟩) (by assumption) ?_
            (try simp only [Act.put, List.getElem_toArray, List.getElem_cons_zero, List.getElem_cons_succ, List.setIfInBounds_toArray, List.set_cons_zero, List.set_cons_succ])
            refine wpAnyH_take1 (i := 20) (oi := _) (v := ?_) (by kernel_rfl) rfl (by kernel_rfl) (fun _ _ _ h => h) (Or.inl ⟨by rfl, ?_⟩) (by assumption) ?_
            rotate_left 1
            · intro w hSw; (try dsimp only at hSw); go_simp; (with_reducible rfl)
            (try simp only [Act.put, List.getElem_toArray, List.getElem_cons_zero, List.getElem_cons_succ, List.setIfInBounds_toArray, List.set_cons_zero, List.set_cons_succ])
            refine wpAnyH_done (by kernel_rfl) ?_ _
            refine NoPanic.normal ?_
            have HF := Lib.hid (below_step HY2 HbW.out)
            go_wp2_with fail
            go_roundw
            case rel => exact ⟨k + 1, hlt, by go_num, hz', HF⟩
            case measure => simp [intOf]; omega
          | false =>
            have hqe := Lib.hid (show q = dc by rw [hqd.out]; simp)
            clear hqd
            (try simp only [List.append_eq, List.cons_append, List.nil_append])
            refine wp_region_noPanic ?_
            refine wp_region_held_drew (S := fun w' => w'.cell? ⟨bq, 0, none⟩ = some (.int .i64 ea) ∧ w'.cell? ⟨bq, 1, none⟩ = some (.int .i64 (nb : Int)) ∧ w'.cell? ⟨b1t, 0, none⟩ = some (.slice (some ⟨b2, o2, none⟩) r.tabs.length tc) ∧ w'.cell? ⟨b2, o2 + nb * 2, none⟩ = some (.slice ca tt.call.length cc) ∧ w'.cell? ⟨b2, o2 + nb * 2 + 1, none⟩ = some (.slice aa tt.ans.length ac) ∧ w'.cell? ⟨bt, 0, none⟩ = some (.slice na now.tabs.length nc) ∧ w'.cell? ⟨bt, 1, none⟩ = some (.slice ja jl jc) ∧ w'.cell? ⟨bt, 2, none⟩ = some (.slice ma now.lks.length mc)) (by kernel_rfl) ?_ (fun hHeld => ?_)
            · exact (Kq (Below.drew (Below.refl _ _))).out
            refine wpAnyH_take1 (i := 0) (oi := _) (v := ?_) (by kernel_rfl) rfl (by kernel_rfl) (fun _ _ _ h => h) (Or.inl ⟨by rfl, ?_⟩) (by assumption) ?_
            rotate_left 1
            · intro w hSw; (try dsimp only at hSw); go_simp; (with_reducible rfl)
            (try simp only [Act.put, List.getElem_toArray, List.getElem_cons_zero, List.setIfInBounds_toArray, List.set_cons_zero, List.set_cons_succ])
            refine wpAnyH_take1 (i := 1) (oi := _) (v := ?_) (by kernel_rfl) rfl (by kernel_rfl) (fun _ _ _ h => h) (Or.inl ⟨by rfl, ?_⟩) (by assumption) ?_
            rotate_left 1
            · intro w hSw; (try dsimp only at hSw); go_simp; (with_reducible rfl)
            (try simp only [Act.put, List.getElem_toArray, List.getElem_cons_zero, List.getElem_cons_succ, List.setIfInBounds_toArray, List.set_cons_zero, List.set_cons_succ])
            refine wpAnyH_take1 (i := 2) (oi := _) (v := ?_) (by kernel_rfl) rfl (by kernel_rfl) (fun _ _ _ h => h) (Or.inl ⟨by rfl, ?_⟩) (by assumption) ?_
            rotate_left 1
            · intro w hSw; (try dsimp only at hSw); go_simp; (with_reducible rfl)
            (try simp only [Act.put, List.getElem_toArray, List.getElem_cons_zero, List.getElem_cons_succ, List.setIfInBounds_toArray, List.set_cons_zero, List.set_cons_succ])
            refine wpAnyH_one (i := 3) (by kernel_rfl) rfl (by rfl) fun K hK => ?_
            go_simp
            refine (h1.out _ Seq.way).mono ?_
            rintro e y1 ⟨rfl, hy1⟩
            have HY1 := below_step hy1 (Seq.way : Below W2.heap.size W2 _)
            have zy1 := HY1.size
            (try dsimp only)
            clear hHeld
            refine hK.out _ _ (Kq HY1).out fun hHeld => ?_
            clear hK K
            (try simp only [Act.put, List.getElem_toArray, List.getElem_cons_zero, List.getElem_cons_succ, List.setIfInBounds_toArray, List.set_cons_zero, List.set_cons_succ])
            refine wpAnyH_take1 (i := 4) (oi := _) (v := ?_) (by kernel_rfl) rfl (by kernel_rfl) (fun _ _ _ h => h) (Or.inl ⟨by rfl, ?_⟩) (by assumption) ?_
            rotate_left 1
            · intro w hSw; (try dsimp only at hSw); go_simp; (with_reducible rfl)
            (try simp only [Act.put, List.getElem_toArray, List.getElem_cons_zero, List.getElem_cons_succ, List.setIfInBounds_toArray, List.set_cons_zero, List.set_cons_succ])
            refine wpAnyH_take1 (i := 5) (oi := _) (v := ?_) (by kernel_rfl) rfl (by kernel_rfl) (fun _ _ _ h => h) (Or.inl ⟨by rfl, ?_⟩) (by assumption) ?_
            rotate_left 1
            · intro w hSw; (try dsimp only at hSw); go_simp; (with_reducible rfl)
            (try simp only [Act.put, List.getElem_toArray, List.getElem_cons_zero, List.getElem_cons_succ, List.setIfInBounds_toArray, List.set_cons_zero, List.set_cons_succ])
            refine wpAnyH_take1 (i := 6) (oi := _) (v := ?_) (by kernel_rfl) rfl (by kernel_rfl) (fun _ _ _ h => h) (Or.inl ⟨by rfl, ?_⟩) (by assumption) ?_
            rotate_left 1
            · intro w hSw; (try dsimp only at hSw); go_simp; (with_reducible rfl)
            (try simp only [Act.put, List.getElem_toArray, List.getElem_cons_zero, List.getElem_cons_succ, List.setIfInBounds_toArray, List.set_cons_zero, List.set_cons_succ])
            refine wpAnyH_take1 (i := 7) (oi := _) (v := ?_) (by kernel_rfl) rfl (by kernel_rfl) (fun _ _ _ h => h) (Or.inl ⟨by rfl, ?_⟩) (by assumption) ?_
            rotate_left 1
            · intro w hSw; (try dsimp only at hSw); go_simp; (with_reducible rfl)
            (try simp only [Act.put, List.getElem_toArray, List.getElem_cons_zero, List.getElem_cons_succ, List.setIfInBounds_toArray, List.set_cons_zero, List.set_cons_succ])
            refine wpAnyH_one (i := 8) (by kernel_rfl) rfl (by rfl) fun K hK => ?_
            go_simp
            refine (h2.out _ Seq.way).mono ?_
            rintro e y2 ⟨rfl, hy2⟩
            have HY2 := below_step hy2 (Seq.way : Below W2.heap.size W2 _)
            have zy2 := HY2.size
            (try dsimp only)
            clear hHeld
            refine hK.out _ _ (Kq HY2).out fun hHeld => ?_
            clear hK K
            (try simp only [Act.put, List.getElem_toArray, List.getElem_cons_zero, List.getElem_cons_succ, List.setIfInBounds_toArray, List.set_cons_zero, List.set_cons_succ])
            refine wpAnyH_take1 (i := 9) (oi := _) (v := ?_) (by kernel_rfl) rfl (by kernel_rfl) (fun _ _ _ h => h) (Or.inl ⟨by rfl, ?_⟩) (by assumption) ?_
            rotate_left 1
            · intro w hSw; (try dsimp only at hSw); go_simp; (with_reducible rfl)
            (try simp only [Act.put, List.getElem_toArray, List.getElem_cons_zero, List.getElem_cons_succ, List.setIfInBounds_toArray, List.set_cons_zero, List.set_cons_succ])
            refine wpAnyH_take1 (i := 10) (oi := _) (v := ?_) (by kernel_rfl) rfl (by kernel_rfl) (fun _ _ _ h => h) (Or.inl ⟨by rfl, ?_⟩) (by assumption) ?_
            rotate_left 1
            · intro w hSw; (try dsimp only at hSw); go_simp; (with_reducible rfl)
            (try simp only [Act.put, List.getElem_toArray, List.getElem_cons_zero, List.getElem_cons_succ, List.setIfInBounds_toArray, List.set_cons_zero, List.set_cons_succ])
            refine wpAnyH_take1 (i := 11) (oi := _) (v := ?_) (by kernel_rfl) rfl (by kernel_rfl) (fun _ _ _ h => h) (Or.inl ⟨by rfl, ?_⟩) (by assumption) ?_
            rotate_left 1
            · intro w hSw; (try dsimp only at hSw); go_simp; (with_reducible rfl)
            (try simp only [Act.put, List.getElem_toArray, List.getElem_cons_zero, List.getElem_cons_succ, List.setIfInBounds_toArray, List.set_cons_zero, List.set_cons_succ])
            refine wpAnyH_take1 (i := 12) (oi := _) (v := ?_) (by kernel_rfl) rfl (by kernel_rfl) (fun _ _ _ h => h) (Or.inl ⟨by rfl, ?_⟩) (by assumption) ?_
            rotate_left 1
            · intro w hSw; (try dsimp only at hSw); go_simp; (with_reducible rfl)
            (try simp only [Act.put, List.getElem_toArray, List.getElem_cons_zero, List.getElem_cons_succ, List.setIfInBounds_toArray, List.set_cons_zero, List.set_cons_succ])
            refine wpAnyH_take1 (i := 13) (oi := _) (v := ?_) (by kernel_rfl) rfl (by kernel_rfl) (fun _ _ _ h => h) (Or.inl ⟨by rfl, ?_⟩) (by assumption) ?_
            rotate_left 1
            · intro w hSw; (try dsimp only at hSw); go_simp; (with_reducible rfl)
            (try simp only [Act.put, List.getElem_toArray, List.getElem_cons_zero, List.getElem_cons_succ, List.setIfInBounds_toArray, List.set_cons_zero, List.set_cons_succ])
            refine wpAnyH_take1 (i := 14) (oi := _) (v := ?_) (by kernel_rfl) rfl (by kernel_rfl) (fun _ _ _ h => h) (Or.inl ⟨by rfl, ?_⟩) (by assumption) ?_
            rotate_left 1
            · intro w hSw; (try dsimp only at hSw); go_simp; (with_reducible rfl)
            (try simp only [Act.put, List.getElem_toArray, List.getElem_cons_zero, List.getElem_cons_succ, List.setIfInBounds_toArray, List.set_cons_zero, List.set_cons_succ])
            refine wpAnyH_take1 (i := 15) (oi := _) (v := ?_) (by kernel_rfl) rfl (by kernel_rfl) (fun _ _ _ h => h) (Or.inl ⟨by rfl, ?_⟩) (by assumption) ?_
            rotate_left 1
            · intro w hSw; (try dsimp only at hSw); go_simp; (with_reducible rfl)
            (try simp only [Act.put, List.getElem_toArray, List.getElem_cons_zero, List.getElem_cons_succ, List.setIfInBounds_toArray, List.set_cons_zero, List.set_cons_succ])
            refine wpAnyH_take1 (i := 16) (oi := _) (v := ?_) (by kernel_rfl) rfl (by kernel_rfl) (fun _ _ _ h => h) (Or.inl ⟨by rfl, ?_⟩) (by assumption) ?_
            rotate_left 1
            · intro w hSw; (try dsimp only at hSw); go_simp; (with_reducible rfl)
            (try simp only [Act.put, List.getElem_toArray, List.getElem_cons_zero, List.getElem_cons_succ, List.setIfInBounds_toArray, List.set_cons_zero, List.set_cons_succ])
            refine wpAnyH_take1 (i := 17) (oi := _) (v := ?_) (by kernel_rfl) rfl (by kernel_rfl) (fun _ _ _ h => h) (Or.inl ⟨by rfl, ?_⟩) (by assumption) ?_
            rotate_left 1
            · intro w hSw; (try dsimp only at hSw); go_simp; (with_reducible rfl)
            (try simp only [Act.put, List.getElem_toArray, List.getElem_cons_zero, List.getElem_cons_succ, List.setIfInBounds_toArray, List.set_cons_zero, List.set_cons_succ])
            refine wpAnyH_take1 (i := 18) (oi := _) (v := ?_) (by kernel_rfl) rfl (by kernel_rfl) (fun _ _ _ h => h) (Or.inl ⟨by rfl, ?_⟩) (by assumption) ?_
            rotate_left 1
            · intro w hSw; (try dsimp only at hSw); go_simp; (with_reducible rfl)
            (try simp only [Act.put, List.getElem_toArray, List.getElem_cons_zero, List.getElem_cons_succ, List.setIfInBounds_toArray, List.set_cons_zero, List.set_cons_succ])
            refine wpAnyH_one (i := 19) (by kernel_rfl) rfl (by rfl) fun K hK => ?_
            go_simp
            refine (h3.out _ Seq.way).mono ?_
            rintro e y3 ⟨rfl, hy3⟩
            have HY3 := below_step hy3 (Seq.way : Below W2.heap.size W2 _)
            have zy3 := HY3.size
            (try dsimp only)
            clear hHeld
            refine hK.out _ _ (Kq HY3).out fun hHeld => ?_
            clear hK K
            (try simp only [Act.put, List.getElem_toArray, List.getElem_cons_zero, List.getElem_cons_succ, List.setIfInBounds_toArray, List.set_cons_zero, List.set_cons_succ])
            refine wpAnyH_take1 (i := 20) (oi := _) (v := ?_) (by kernel_rfl) rfl (by kernel_rfl) (fun _ _ _ h => h) (Or.inl ⟨by rfl, ?_⟩) (by assumption) ?_
            rotate_left 1
            · intro w hSw; (try dsimp only at hSw); go_simp; (with_reducible rfl)
            (try simp only [Act.put, List.getElem_toArray, List.getElem_cons_zero, List.getElem_cons_succ, List.setIfInBounds_toArray, List.set_cons_zero, List.set_cons_succ])
            refine wpAnyH_done (by kernel_rfl) ?_ _
            refine NoPanic.normal ?_
            have HF := Lib.hid (below_step HY3 HbW.out)
            cases dc with
            | true =>
              have hy' := Lib.hid (hy.out hqe.out)
              go_wp2_with fail
              go_ret
              exact ⟨ret_bool hy'.out.symm, below_step HF.out HBw.out⟩
            | false =>
              have hz' := Lib.hid (hz.out hqe.out)
              go_wp2_with fail
              go_roundw
              case rel => exact ⟨k + 1, hlt, by go_num, hz', HF⟩
              case measure => simp [intOf]; omega
      · have hkl : ¬ (k : Int) < (r.lks.length : Int) := by omega
        have hd := Lib.hid (anewB_3 Hm.out fun j hj => hno.out j hj (by omega))
        clear hlt hno
        go_wp2_with fail
        go_ret
        exact ⟨ret_bool hd.out.symm, below_step hbr.out HBw.out⟩

def agnB (r now : Res) (c : List (List Cell)) (i : Nat) : Bool := anewB r now (natsZ (touchL r c)) (natsZ (cmpoL r i))
/-- The tables that must be evaluated anew. -/
def againL (r now : Res) (c : List (List Cell)) : List Nat := fltN (agnB r now c) r.tabs.length

set_option maxHeartbeats 6400000 in
set_option maxRecDepth 100000 in
theorem AgainR_spec {S T S1 : Nat → Prop} {w : World} {v u x : Value} {r now : Res} {c : List (List Cell)} (hr : ResV S w v r) (hn : ResV T w u now) (hc : Seq (seqE cellE) S1 w x c) (hro : ResOK r) (hok : ChgOK c) :
    Calls Tryz.prog 20 #[v, u, x] w (Ret (fun o w' => Seq intE (fun b => w.heap.size ≤ b) w' o (natsZ (againL r now c))) w) := by
  obtain ⟨ta, tc, ia, il, ic, la, lc, rfl, hT, hE⟩ := hr
  obtain ⟨na, nc, ja, jl, jc, ma, mc, rfl, hN, hM⟩ := hn
  obtain ⟨W1, hW1⟩ : ∃ W, W = w.alloc (.cells #[.slice ta r.tabs.length tc, .slice ia il ic, .slice la r.lks.length lc] 26) := ⟨_, rfl⟩
  have HBW1 := Lib.hid (show Below w.heap.size w W1 by rw [hW1]; exact Seq.way)
  have HW1 := Lib.hid hW1
  have hsW1 : W1.heap.size = w.heap.size + 1 := by rw [hW1]; simp
  obtain ⟨b1t, hb1t⟩ : ∃ b, b = w.heap.size := ⟨_, rfl⟩
  have Hb1t := Lib.hid hb1t
  have HRW1 := Lib.hid (show RowA 26 W1 b1t [.slice ta r.tabs.length tc, .slice ia il ic, .slice la r.lks.length lc] by rw [hW1, show b1t = w.heap.size by omega]; exact Row.new w [_, _, _] _ rfl)
  have K1 := fun {W' : World} (h : Below W1.heap.size W1 W') => Lib.hid (show W'.cell? ⟨b1t, 0, none⟩ = some (.slice ta r.tabs.length tc) ∧ W'.cell? ⟨b1t, 1, none⟩ = some (.slice ia il ic) ∧ W'.cell? ⟨b1t, 2, none⟩ = some (.slice la r.lks.length lc) ∧ b1t < W'.heap.size from
    ⟨(HRW1.out.at h).row.cell (j := 0) (by simp), (HRW1.out.at h).row.cell (j := 1) (by simp), (HRW1.out.at h).row.cell (j := 2) (by simp), (HRW1.out.at h).row.lt⟩)
  obtain ⟨W, hW⟩ : ∃ W, W = W1.alloc (.cells #[.slice na now.tabs.length nc, .slice ja jl jc, .slice ma now.lks.length mc] 26) := ⟨_, rfl⟩
  have HBW := Lib.hid (show Below W1.heap.size W1 W by rw [hW]; exact Seq.way)
  have HW := Lib.hid hW
  have hsW : W.heap.size = W1.heap.size + 1 := by rw [hW]; simp
  obtain ⟨bt, hbt⟩ : ∃ b, b = w.heap.size + 1 := ⟨_, rfl⟩
  have Hbt := Lib.hid hbt
  have HRW := Lib.hid (show RowA 26 W bt [.slice na now.tabs.length nc, .slice ja jl jc, .slice ma now.lks.length mc] by rw [hW, show bt = W1.heap.size by omega]; exact Row.new W1 [_, _, _] _ rfl)
  have Kn := fun {W' : World} (h : Below W.heap.size W W') => Lib.hid (show W'.cell? ⟨bt, 0, none⟩ = some (.slice na now.tabs.length nc) ∧ W'.cell? ⟨bt, 1, none⟩ = some (.slice ja jl jc) ∧ W'.cell? ⟨bt, 2, none⟩ = some (.slice ma now.lks.length mc) ∧ bt < W'.heap.size from
    ⟨(HRW.out.at h).row.cell (j := 0) (by simp), (HRW.out.at h).row.cell (j := 1) (by simp), (HRW.out.at h).row.cell (j := 2) (by simp), (HRW.out.at h).row.lt⟩)
  have HBw := Lib.hid (below_step HBW.out HBW1.out)
  have HT := Lib.hid (hT.at HBw.out)
  have HE := Lib.hid (hE.at HBw.out)
  have HN := Lib.hid (hN.at HBw.out)
  have HM := Lib.hid (hM.at HBw.out)
  have HC := Lib.hid (hc.at HBw.out)
  have hrl := hro.tl
  have Hro := Lib.hid hro
  have Hok := Lib.hid hok
  obtain ⟨xa, xc, rfl⟩ := hc.shape
  clear hT hE hN hM hc hro hok hW1 hW hb1t hbt hsW1 hsW
  go_enter Tryz.func20, Tryz.ntmps20
  go_upto_region 1 with fail
  rw [← HW1.out, ← HW.out, ← Hbt.out, ← Hb1t.out]
  have Kt := fun {W' : World} (h : Below W.heap.size W W') => K1 (below_step h HBW.out)
  obtain ⟨n0, n1, n2, nl⟩ := (Kn (Below.refl _ W)).out
  obtain ⟨r0, r1, r2, rl⟩ := (Kt (Below.refl _ W)).out
  go_wp2_with fail
  refine (TouchedR_spec (ResV.mk HT.out HE.out) HC.out Hro.out.tl Hro.out.cl Hok.out).mono ?_
  rintro e w1 ⟨v1, rfl, hb1, hs1⟩
  have Hdef := Lib.hid (show againL r now c = fltN (agnB r now c) r.tabs.length from rfl)
  have Hdr := Lib.hid (fun i => show agnB r now c i = anewB r now (natsZ (touchL r c)) (natsZ (cmpoL r i)) from rfl)
  obtain ⟨t, ht⟩ : ∃ t, t = natsZ (touchL r c) := ⟨_, rfl⟩
  rw [← ht] at hs1 Hdr
  obtain ⟨ua, uc, rfl⟩ := hs1.shape
  have HU := Lib.hid hs1.any
  have B1 := Lib.hid hb1
  clear hs1 hb1 ht r0 r1 r2 rl n0 n1 n2 nl
  go_wp2_with fail
  have hown0 := Lib.hid (show Own intE (fun _ => False) w1.heap.size 3 (w1.alloc (.cells #[] 3)) (.slice (some ⟨w1.heap.size, 0, none⟩) 0 0) (natsZ (fltN (agnB r now c) 0)) from Own.lit0 rfl (Nat.le_refl _) rfl)
  go_loopw [8, 9] (fun o i wz => ∃ k : Nat, k ≤ r.tabs.length ∧ i = .int .i64 k ∧ Hid (Own intE (fun _ => False) w1.heap.size 3 wz o (natsZ (fltN (agnB r now c) k))) ∧ Hid (Below w1.heap.size w1 wz)) (fun _ i _ => r.tabs.length - (intOf i).toNat)
  case atStart => exact ⟨0, Nat.zero_le _, rfl, hown0, Lib.hid Seq.way⟩
  case round =>
    obtain ⟨k, hk, rfl, hown, hbz⟩ := hrel
    have hzr := hbz.out.size
    have hln2 := fltN_len (agnB r now c) k
    have hsq := Lib.hid (hown.out.seq (S := fun _ => False) (T := fun _ => True) (by omega) fun _ _ _ => trivial)
    obtain ⟨oa, oc, rfl⟩ := hsq.out.shape
    have hbw := Lib.hid (below_step hbz.out B1.out)
    obtain ⟨n0, n1, n2, nl⟩ := (Kn hbw.out).out
    obtain ⟨r0, r1, r2, rl⟩ := (Kt hbw.out).out
    by_cases hkl : k < r.tabs.length
    · have hkI : (k : Int) < (r.tabs.length : Int) := by omega
      have hk0 : (0 : Int) ≤ (k : Int) := by omega
      have h1 := Lib.hid (fun (W' : World) (h : Below wr.heap.size wr W') => CompR23_spec (w := W') (n := k) (ResV.mk (ia := ia) (il := il) (ic := ic) (HT.out.at (below_step h hbw.out)) (HE.out.at (below_step h hbw.out))) hkl Hro.out)
      have hat := Lib.hid (show agnB r now c k = anewB r now t (natsZ (cmpoL r k)) from Hdr.out k)
      obtain ⟨m, hm⟩ : ∃ m, m = natsZ (cmpoL r k) := ⟨_, rfl⟩
      rw [← hm] at h1 hat
      have h2 := Lib.hid (fun (W' : World) (h : Below wr.heap.size wr W') {S2 : Nat → Prop} {z : Value} (hz : Seq intE S2 W' z m) => anewR_spec (w := W') (now := now) (ResV.mk (ia := ia) (il := il) (ic := ic) (HT.out.at (below_step h hbw.out)) (HE.out.at (below_step h hbw.out))) (ResV.mk (ia := ja) (il := jl) (ic := jc) (HN.out.at (below_step h hbw.out)) (HM.out.at (below_step h hbw.out))) (HU.out.at (below_step h hbz.out)) hz Hro.out.rg)
      have Kq := fun {W' : World} (h : Below wr.heap.size wr W') => Lib.hid (show W'.cell? ⟨b1t, 0, none⟩ = some (.slice ta r.tabs.length tc) ∧ W'.cell? ⟨b1t, 1, none⟩ = some (.slice ia il ic) ∧ W'.cell? ⟨b1t, 2, none⟩ = some (.slice la r.lks.length lc) ∧ W'.cell? ⟨bt, 0, none⟩ = some (.slice na now.tabs.length nc) ∧ W'.cell? ⟨bt, 1, none⟩ = some (.slice ja jl jc) ∧ W'.cell? ⟨bt, 2, none⟩ = some (.slice ma now.lks.length mc) from
        ⟨((Kt (below_step h hbw.out)).out).1, ((Kt (below_step h hbw.out)).out).2.1, ((Kt (below_step h hbw.out)).out).2.2.1, ((Kn (below_step h hbw.out)).out).1, ((Kn (below_step h hbw.out)).out).2.1, ((Kn (below_step h hbw.out)).out).2.2.1⟩)
      clear hm
      go_upto_region 6 with fail
      clear r0 r1 r2 rl n0 n1 n2 nl
      go_region_held3 (fun w' => w'.cell? ⟨b1t, 0, none⟩ = some (.slice ta r.tabs.length tc) ∧ w'.cell? ⟨b1t, 1, none⟩ = some (.slice ia il ic) ∧ w'.cell? ⟨b1t, 2, none⟩ = some (.slice la r.lks.length lc) ∧ w'.cell? ⟨bt, 0, none⟩ = some (.slice na now.tabs.length nc) ∧ w'.cell? ⟨bt, 1, none⟩ = some (.slice ja jl jc) ∧ w'.cell? ⟨bt, 2, none⟩ = some (.slice ma now.lks.length mc))
        (first | exact (Kq (Below.refl _ _)).out | exact (Kq Seq.way).out | go_keep)
        (first
          | (go_at_call 39; refine (h1.out _ Seq.way).mono ?_; rintro e z1 ⟨v2, rfl, hz1, hs2⟩; obtain ⟨xa2, xc2, rfl⟩ := hs2.shape; have HX := Lib.hid hs2.any; have hz1w : Below wr.heap.size wr z1 := (below_step hz1 (Seq.way : Below wr.heap.size wr _)))
          | (go_at_call 45; refine (h2.out _ Seq.way (HX.out.at Seq.way)).mono ?_; rintro e z2 ⟨rfl, hz2⟩; have hz2w : Below wr.heap.size wr z2 := (below_step hz2 (Seq.way : Below wr.heap.size wr _))))
      have HZ := Lib.hid (below_step (show Below wr.heap.size wr z2 from hz2w) hbz.out)
      have hzz := HZ.out.size
      have HO := Lib.hid (Own.move hown.out hz2w)
      rw [← hat.out]
      clear Kq h1 h2 hz1 hs2 hz2 hz2w
      cases hq : agnB r now c k with
      | false =>
        have hno2 := Lib.hid (fltN_no hq)
        clear hq
        go_wp2_with fail
        go_roundw
        case rel => exact ⟨k + 1, hkl, by go_num, Lib.hid (by rw [hno2.out]; exact Own.move HO.out Seq.way), Lib.hid (below_step Seq.way HZ.out)⟩
        case measure => simp [intOf]; omega
      | true =>
        have hy2 := Lib.hid (fltN_yes hq)
        clear hq
        go_wp2_with (at_builtin; refine wpList_app_int rfl _ _ 32 rfl Tryz.underlying32 infoInt rfl HO.out rfl (y := (k : Int)) Seq.way ⟨by omega, by omega⟩ ?_ ?_ ?_ ?_)
        · go_simp
        · omega
        · exact hzz
        · intro ao cap w' hown' hkept
          have H' := Lib.hid hown'
          have K' := Lib.hid (Below.trans HZ.out (Below.trans (Below.mono (Seq.way : Below _ _ _) hzz) hkept.below))
          clear hown' hkept
          go_wp2_with fail
          go_roundw
          case rel => exact ⟨k + 1, hkl, by go_num, Lib.hid (by rw [hy2.out]; simpa using H'.out), K'⟩
          case measure => simp [intOf]; omega
    · have hkI : ¬ (k : Int) < (r.tabs.length : Int) := by omega
      have hke := Lib.hid (show k = r.tabs.length by omega)
      have hfin := Lib.hid (show Seq intE (fun b => w.heap.size ≤ b) wr (.slice oa (natsZ (fltN (agnB r now c) k)).length oc) (natsZ (againL r now c)) by
        rw [Hdef.out, ← hke.out]
        have h1 := HBw.out.size
        have h2 := B1.out.size
        exact hown.out.seq (by omega) fun b _ hb => hb.elim False.elim fun h => by omega)
      clear hkl
      go_wp2_with fail
      go_ret
      exact ⟨_, rfl, below_step hbw.out HBw.out, hfin.out⟩

set_option maxHeartbeats 1600000 in
set_option maxRecDepth 100000 in
theorem SameR23_spec {S T : Nat → Prop} {w : World} {v u : Value} {a b : List (List Int)} (ha : Seq (seqE intE) S w v a) (hb : Seq (seqE intE) T w u b) :
    Calls Tryz.prog 16 #[v, u] w (QuietV (.bool (decide (a = b))) w) := by
  have HA := Lib.hid ha
  have HB := Lib.hid hb
  have hal : a.length ≤ 140737488355328 := by obtain ⟨_, _, _, _, _, h, _⟩ := ha; exact h
  obtain ⟨aa, ac, rfl⟩ := ha.shape
  obtain ⟨ba, bc, rfl⟩ := hb.shape
  clear ha hb
  go_enter Tryz.func16, Tryz.ntmps16
  by_cases hl : a.length = b.length
  · have hl' : ((a.length : Int) != (b.length : Int)) = false := by simp [hl]
    have Hl := Lib.hid hl
    clear hl
    go_wp2_with fail
    go_loopw [5] (fun i wr => ∃ k : Nat, k ≤ a.length ∧ i = .int .i64 k ∧ Hid (∀ j, j < k → a[j]? = b[j]?) ∧ Drew w wr) (fun i _ => a.length - (intOf i).toNat)
    case atStart => exact ⟨0, Nat.zero_le _, rfl, Lib.hid (by simp), Drew.refl _⟩
    case round =>
      obtain ⟨k, hk, rfl, hno, hdr⟩ := hrel
      have hbr := hdr.belowS
      by_cases hka : k < a.length
      · have hkb : k < b.length := by rw [← Hl.out]; exact hka
        obtain ⟨_, _, ee, -, -, -, -, x5⟩ := HA.out.at hbr
        simp only [Value.slice.injEq, true_and] at ee
        obtain ⟨rfl, rfl⟩ := ee
        obtain ⟨_, _, ee, -, -, -, -, y5⟩ := HB.out.at hbr
        simp only [Value.slice.injEq, true_and] at ee
        obtain ⟨rfl, rfl⟩ := ee
        obtain ⟨b1, o1, p1, n1, rfl, -, l1, c0, hX⟩ := x5.seq hka
        obtain ⟨b2, o2, p2, n2, rfl, -, l2, d0, hY⟩ := y5.seq hkb
        have hx := Lib.hid (show a[k] = b[k] → ∀ j, j < k + 1 → a[j]? = b[j]? from fun h j hj => by
          by_cases e : j = k
          · subst e; rw [List.getElem?_eq_getElem hka, List.getElem?_eq_getElem hkb, h]
          · exact hno.out j (by omega))
        have hn := Lib.hid (show a[k] ≠ b[k] → decide (a = b) = false from fun h => decide_eq_false fun e => by subst e; exact h rfl)
        have HX := Lib.hid hX
        have HY := Lib.hid hY
        obtain ⟨x, hxe⟩ : ∃ x, x = a[k] := ⟨_, rfl⟩
        obtain ⟨y, hye⟩ : ∃ y, y = b[k] := ⟨_, rfl⟩
        rw [← hxe] at c0 hx hn HX
        rw [← hye] at d0 hx hn HY
        clear hxe hye hX hY x5 y5
        have hkl : (k : Int) < (a.length : Int) := by omega
        have hkm : (k : Int) < (b.length : Int) := by omega
        have hk0 : (0 : Int) ≤ (k : Int) := by omega
        have hd := Lib.hid hdr
        clear hdr
        go_upto_region 6 with fail
        go_still_tail 8, (by kernel_rfl)
        go_wp2_with fail
        refine (IntsR14_spec (HX.out.at Seq.way) (HY.out.at Seq.way)).mono ?_
        rintro e w1 ⟨rfl, hq⟩
        have hq' := Lib.hid (show Drew w w1 from hd.out.trans (Drew.trans (by repeat (first | exact Drew.refl _ | exact Drew.of _ _ | refine Drew.drewN ?_ _)) hq))
        clear hq
        by_cases he : x = y
        · have hx' := Lib.hid (hx.out he)
          rw [decide_eq_true he]
          clear hx hn he
          go_wp2_with fail
          go_roundw
          case rel => exact ⟨k + 1, hka, by go_num, hx', hq'.out⟩
          case measure => simp [intOf]; omega
        · have hn' := Lib.hid (hn.out he)
          rw [decide_eq_false he]
          clear hx hn he
          go_wp2_with fail
          go_ret
          exact ⟨ret_bool hn'.out.symm, hq'.out⟩
      · have he := Lib.hid (show decide (a = b) = true from decide_eq_true (List.ext_getElem? fun j => by
          by_cases hj : j < a.length
          · exact hno.out j (by omega)
          · rw [List.getElem?_eq_none (by omega), List.getElem?_eq_none (by have := Hl.out; omega)]))
        have hkn : ¬ (k : Int) < (a.length : Int) := by omega
        clear hno hka
        go_wp2_with fail
        go_ret
        exact ⟨ret_bool he.out.symm, hdr⟩
  · have hd := Lib.hid (show decide (a = b) = false from decide_eq_false fun h => hl (by rw [h]))
    have hl' : ((a.length : Int) != (b.length : Int)) = true := by simp; omega
    clear hl
    go_wp2_with fail
    go_ret
    exact ⟨ret_bool hd.out.symm, Drew.refl _⟩
end
end Go.Proofs.YtbcambjonjhopaaGreat
