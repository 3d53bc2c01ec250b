/-
  Layer 23's laws: the walk of DepsComps.
-/
import Derived.Test.YtbcambjonjhopaaDpU
namespace Go.Proofs.Ytbcambjonjhopaa
open Go Go.RowKit

/-- The place of the first row that has a number. -/
def placeZ (cs : List (List Int)) (x : Int) : Int := if cs.findIdx (fun c => decide (x ∈ c)) < cs.length then (cs.findIdx (fun c => decide (x ∈ c)) : Int) else -1
theorem placeZ_hit {cs : List (List Int)} {x : Int} {k : Nat} (hk : k < cs.length) (h : x ∈ cs[k]) (hno : ∀ j (hj : j < k), ¬ x ∈ cs[j]'(by omega)) : placeZ cs x = (k : Int) := by
  have he : cs.findIdx (fun c => decide (x ∈ c)) = k := (List.findIdx_eq hk).2 ⟨decide_eq_true h, fun j hj => decide_eq_false (hno j hj)⟩
  unfold placeZ
  rw [he, if_pos hk]
theorem placeZ_miss {cs : List (List Int)} {x : Int} (h : ∀ j (hj : j < cs.length), ¬ x ∈ cs[j]) : placeZ cs x = -1 := by
  have he : cs.findIdx (fun c => decide (x ∈ c)) = cs.length := List.findIdx_eq_length.2 fun c hc => by
    obtain ⟨j, hj, rfl⟩ := List.mem_iff_getElem.1 hc
    exact decide_eq_false (h j hj)
  unfold placeZ
  rw [he, if_neg (by omega)]

set_option maxHeartbeats 3200000 in
set_option maxRecDepth 100000 in
theorem placeL_spec {S : Nat → Prop} {w : World} {v : Value} {cs : List (List Int)} {n : Int} (hc : Seq (seqE intE) S w v cs) :
    Calls Try.prog 7 #[v, .int .i64 n] w (PureV (.int .i64 (placeZ cs n)) w) := by
  have HC := Lib.hid hc
  have hcl : cs.length ≤ 140737488355328 := by obtain ⟨_, _, _, _, _, h, _⟩ := hc; exact h
  obtain ⟨ca, cc, rfl⟩ := hc.shape
  clear hc
  go_enter Try.func7, Try.ntmps7
  go_wp2_with fail
  go_loopw [5] (fun i wr => ∃ k : Nat, k ≤ cs.length ∧ i = .int .i64 k ∧ Hid (∀ j (hj : j < cs.length), j < k → ¬ n ∈ cs[j]) ∧ w = wr) (fun i _ => cs.length - (intOf i).toNat)
  case atStart => exact ⟨0, Nat.zero_le _, rfl, Lib.hid (fun j _ h => absurd h (Nat.not_lt_zero _)), rfl⟩
  case round =>
    obtain ⟨k, hk, rfl, hno, rfl⟩ := hrel
    by_cases hkl : k < cs.length
    · obtain ⟨_, _, ee, -, -, -, -, x5⟩ := HC.out
      simp only [Value.slice.injEq, true_and] at ee
      obtain ⟨rfl, rfl⟩ := ee
      obtain ⟨b1, o1, p1, n1, rfl, -, l1, c0, hX⟩ := x5.seq hkl
      have hy := Lib.hid (fun h : n ∈ cs[k] => placeZ_hit hkl h (fun j hj => hno.out j (by omega) hj))
      have hz := Lib.hid (show ¬ n ∈ cs[k] → ∀ j (hj : j < cs.length), j < k + 1 → ¬ n ∈ cs[j] from fun h j hj hjk => by
        by_cases e : j = k
        · subst e; exact h
        · exact hno.out j hj (by omega))
      have HX := Lib.hid hX
      obtain ⟨x, hx⟩ : ∃ x, x = cs[k] := ⟨_, rfl⟩
      rw [← hx] at c0 HX hy hz
      clear hx hX x5 hno
      have hkI : (k : Int) < (cs.length : Int) := by omega
      have hk0 : (0 : Int) ≤ (k : Int) := by omega
      go_upto_region 4 with fail
      go_wp2_with fail
      refine (InT_spec HX.out).mono ?_
      rintro e _ ⟨rfl, rfl⟩
      by_cases hd : n ∈ x
      · have hy' := Lib.hid (hy.out hd)
        rw [decide_eq_true hd]
        clear hd hy hz
        go_wp2_with fail
        go_ret
        exact ⟨ret_int hy'.out.symm, rfl⟩
      · have hz' := Lib.hid (hz.out hd)
        rw [decide_eq_false hd]
        clear hd hy hz
        go_wp2_with fail
        go_roundw
        case rel => exact ⟨k + 1, hkl, by go_num, hz', by first | rfl | trivial⟩
        case measure => simp [intOf]; omega
    · have hm := Lib.hid (placeZ_miss fun j hj => hno.out j hj (by omega))
      have hkI : ¬ (k : Int) < (cs.length : Int) := by omega
      clear hno
      go_wp2_with fail
      go_ret
      exact ⟨ret_int hm.out.symm, rfl⟩

/-- Where a number lies among the components. -/
theorem comps_at {r : Res} (g : GrL (edgL r) r.tabs.length) {i : Nat} (hi : i < r.tabs.length) : ∃ a, ∃ h : a < (cmpsL r).length, i ∈ (cmpsL r)[a] ∧ placeZ ((cmpsL r).map natsZ) (i : Int) = (a : Int) := by
  have H := comps_all g
  rcases H.all i hi with h | ⟨c, hc, hx⟩
  · cases h
  obtain ⟨a, ha, rfl⟩ := List.mem_iff_getElem.1 hc
  refine ⟨a, ha, hx, placeZ_hit (by rw [List.length_map]; exact ha) (by rw [List.getElem_map]; exact natsZ_mem.2 hx) fun j hj hm => ?_⟩
  rw [List.getElem_map] at hm
  have := comps_one H (a := j) (b := a) (Nat.lt_trans hj ha) ha (natsZ_mem.1 hm) hx
  omega
theorem place_of {r : Res} (g : GrL (edgL r) r.tabs.length) {i a : Nat} (hi : i < r.tabs.length) (ha : a < (cmpsL r).length) (h : i ∈ (cmpsL r)[a]) : placeZ ((cmpsL r).map natsZ) (i : Int) = (a : Int) := by
  obtain ⟨b, hb, hm, he⟩ := comps_at g hi
  rw [he, comps_one (comps_all g) ha hb h hm]
theorem place_pos {r : Res} (g : GrL (edgL r) r.tabs.length) {i : Nat} (hi : i < r.tabs.length) : 0 ≤ placeZ ((cmpsL r).map natsZ) (i : Int) := by
  obtain ⟨a, _, _, he⟩ := comps_at g hi
  omega
theorem place_both {r : Res} (g : GrL (edgL r) r.tabs.length) {i k : Nat} (hi : i < r.tabs.length) (hk : k < r.tabs.length) : (decide ((k : Int) ∈ natsZ (reachL (edgL r) r.tabs.length i)) && decide ((i : Int) ∈ natsZ (reachL (edgL r) r.tabs.length k))) = decide (placeZ ((cmpsL r).map natsZ) (i : Int) = placeZ ((cmpsL r).map natsZ) (k : Int)) := by
  obtain ⟨a, ha, hm, he⟩ := comps_at g hi
  obtain ⟨c, hc, -, hC⟩ := (comps_all g).of _ (List.getElem_mem ha)
  have hmc : i ∈ compL (edgL r) r.tabs.length c := hC ▸ hm
  have h1 : ∀ x y : Nat, decide ((y : Int) ∈ natsZ (reachL (edgL r) r.tabs.length x)) = reB (edgL r) r.tabs.length x y := fun x y => by
    have h : ((y : Int) ∈ natsZ (reachL (edgL r) r.tabs.length x)) = (reB (edgL r) r.tabs.length x y = true) := propext (by rw [natsZ_mem, mem_reachL])
    simp only [h, Bool.decide_eq_true]
  rw [h1, h1, Bool.eq_iff_iff, Bool.and_eq_true, decide_eq_true_eq]
  constructor
  · rintro ⟨h2, h3⟩
    have hkc : k ∈ compL (edgL r) r.tabs.length c := by rw [← g.eq hc hmc]; exact mem_compL.2 ⟨h2, h3⟩
    rw [he, place_of g hk ha (hC ▸ hkc)]
  · intro h
    obtain ⟨b, hb, hm2, he2⟩ := comps_at g hk
    obtain rfl : a = b := by omega
    have hkc : k ∈ compL (edgL r) r.tabs.length c := hC ▸ hm2
    rw [← g.eq hc hmc] at hkc
    exact mem_compL.1 hkc
theorem place_edge {r : Res} (hg : RngR r) (k : Nat) (hk : k < r.lks.length) : placeZ ((cmpsL r).map natsZ) r.lks[k].2 ≤ placeZ ((cmpsL r).map natsZ) r.lks[k].1 := by
  obtain ⟨a, b, h1, h2, h3, ha, hb⟩ := edgL_at hg hk
  have g := edgL_gr hg
  obtain ⟨p, hp, hm, he⟩ := comps_at g ha
  have hab : reB (edgL r) r.tabs.length a b = true := (g.re ha).2 (.step .refl (by rw [← h3]; exact List.getElem_mem _))
  rcases (comps_all g).ord p hp a hm b hab with h | ⟨q, hq, hle, hmq⟩
  · cases h
  rw [h1, h2, he, place_of g hb hq hmq]
  omega
def totZ (cs : List (List Int)) (k : Nat) : Nat := ((cs.take k).map List.length).sum
theorem totZ_succ {cs : List (List Int)} {k : Nat} (hk : k < cs.length) : totZ cs (k + 1) = totZ cs k + cs[k].length := by
  unfold totZ
  rw [List.take_succ_eq_append_getElem hk, List.map_append, List.sum_append]
  simp
theorem totZ_le (cs : List (List Int)) (k : Nat) : totZ cs k ≤ totZ cs cs.length := by
  unfold totZ
  rw [List.take_length]
  conv => rhs; rw [← List.take_append_drop k cs, List.map_append, List.sum_append]
  omega
theorem totZ_all {r : Res} (g : GrL (edgL r) r.tabs.length) : totZ ((cmpsL r).map natsZ) ((cmpsL r).map natsZ).length = r.tabs.length := by
  have h := comps_len (comps_all g)
  unfold totZ
  rw [List.take_length, List.map_map, ← h, List.length_flatten]
  congr 1
  apply List.map_congr_left
  intro x _
  exact natsZ_len x
theorem comps_rise {r : Res} (g : GrL (edgL r) r.tabs.length) {a : Nat} (ha : a < ((cmpsL r).map natsZ).length) (k : Nat) (hk : k + 1 < (((cmpsL r).map natsZ)[a]).length) : (((cmpsL r).map natsZ)[a])[k] < (((cmpsL r).map natsZ)[a])[k + 1] := by
  suffices key : ∀ xs ∈ (cmpsL r).map natsZ, ∀ k (hk : k + 1 < xs.length), xs[k] < xs[k + 1] from key _ (List.getElem_mem ha) k hk
  intro xs hm k hk
  obtain ⟨c, hc, rfl⟩ := List.mem_map.1 hm
  obtain ⟨i, -, -, rfl⟩ := (comps_all g).of c hc
  have hp : (compL (edgL r) r.tabs.length i).Pairwise (· < ·) := List.Pairwise.filter _ List.pairwise_lt_range
  rw [List.pairwise_iff_getElem] at hp
  have hl := natsZ_len (compL (edgL r) r.tabs.length i)
  have := hp k (k + 1) (by omega) (by omega) (by omega)
  rw [natsZ_get (by omega), natsZ_get (by omega)]
  omega

set_option maxHeartbeats 12800000 in
set_option maxRecDepth 100000 in
theorem comps_spec {S : Nat → Prop} {w : World} {v : Value} {r : Res} (hr : ResV S w v r) :
    Calls Try.prog 3 #[v] w (RetV (.bool true) w) := by
  obtain ⟨ta, tc, ia, il, ic, la, lc, rfl, hT, hE⟩ := hr
  obtain ⟨W, hW⟩ : ∃ W, W = w.alloc (.cells #[.slice ta r.tabs.length tc, .slice ia il ic, .slice la r.lks.length lc] 26) := ⟨_, rfl⟩
  have HBW := Lib.hid (show Below w.heap.size w W by rw [hW]; exact Seq.way)
  have HW := Lib.hid hW
  have hsW : W.heap.size = w.heap.size + 1 := by rw [hW]; simp
  obtain ⟨bt, hbt⟩ : ∃ b, b = w.heap.size := ⟨_, rfl⟩
  have Hbt := Lib.hid hbt
  have HRW := Lib.hid (show RowA 26 W bt [.slice ta r.tabs.length tc, .slice ia il ic, .slice la r.lks.length lc] by rw [hW, show bt = w.heap.size by omega]; exact Row.new w [_, _, _] _ rfl)
  have Kr := fun {W' : World} (h : Below W.heap.size W W') => Lib.hid (show W'.cell? ⟨bt, 0, none⟩ = some (.slice ta r.tabs.length tc) ∧ W'.cell? ⟨bt, 1, none⟩ = some (.slice ia il ic) ∧ W'.cell? ⟨bt, 2, none⟩ = some (.slice la r.lks.length lc) ∧ bt < W'.heap.size from
    ⟨(HRW.out.at h).row.cell (j := 0) (by simp), (HRW.out.at h).row.cell (j := 1) (by simp), (HRW.out.at h).row.cell (j := 2) (by simp), (HRW.out.at h).row.lt⟩)
  have HR := Lib.hid (show ResV (fun _ => True) W (.agg #[.slice ta r.tabs.length tc, .slice ia il ic, .slice la r.lks.length lc]) r from ResV.mk (hT.any.at HBW.out) (hE.any.at HBW.out))
  have HT := Lib.hid (hT.any.at HBW.out)
  have HE := Lib.hid (hE.any.at HBW.out)
  clear hT hE hW hbt hsW
  go_enter Try.func3, Try.ntmps3
  go_upto_region 1 with fail
  rw [← HW.out, ← Hbt.out]
  go_wp2_with fail
  refine head_spec.mono ?_
  rintro e w1 ⟨rfl, hb1⟩
  have B1 := Lib.hid hb1
  clear hb1
  obtain ⟨r0, r1, r2, rl⟩ := (Kr B1.out).out
  go_wp2_with fail
  refine (great_spec (HR.out.at B1.out)).mono ?_
  rintro e w2 ⟨rfl, hb2⟩
  have B2 := Lib.hid (below_step hb2 B1.out)
  clear hb2 r0 r1 r2 rl
  cases hg : greatB r with
  | true =>
    clear hg
    go_wp2_with fail
    go_ret
    exact ⟨rfl, below_step B2.out HBW.out⟩
  | false =>
    have A := Lib.hid (ask_of hg)
    clear hg
    have hrl := A.out.len
    have hll := A.out.ok.ll
    have G := Lib.hid (edgL_gr A.out.ok.rg)
    obtain ⟨r0, r1, r2, rl⟩ := (Kr B2.out).out
    have h1 := Lib.hid (CompsP_spec (HR.out.at B2.out) A.out.ok)
    obtain ⟨cs, hcs, f1, f2, f3, f4, f5⟩ : ∃ q, q = (cmpsL r).map natsZ ∧ Hid (∀ a (ha : a < q.length) k (hk : k + 1 < q[a].length), q[a][k] < q[a][k + 1]) ∧ Hid (∀ i, i < r.tabs.length → 0 ≤ placeZ q (i : Int)) ∧
        Hid (∀ i k, i < r.tabs.length → k < r.tabs.length → (decide ((k : Int) ∈ natsZ (reachL (edgL r) r.tabs.length i)) && decide ((i : Int) ∈ natsZ (reachL (edgL r) r.tabs.length k))) = decide (placeZ q (i : Int) = placeZ q (k : Int))) ∧
        Hid (∀ k (hk : k < r.lks.length), placeZ q r.lks[k].2 ≤ placeZ q r.lks[k].1) ∧ Hid (totZ q q.length = r.tabs.length) :=
      ⟨_, rfl, Lib.hid (fun a ha k hk => comps_rise G.out ha k hk), Lib.hid (fun i hi => place_pos G.out hi), Lib.hid (fun i k hi hk => place_both G.out hi hk), Lib.hid (place_edge A.out.ok.rg), Lib.hid (totZ_all G.out)⟩
    rw [← hcs] at h1
    clear hcs
    go_wp2_with fail
    refine h1.out.mono ?_
    clear h1
    rintro e w3 ⟨v3, rfl, hb3, hs3⟩
    have HD := Lib.hid hs3.any
    have hdl : cs.length ≤ 140737488355328 := by obtain ⟨_, _, _, _, _, h, _⟩ := HD.out; exact h
    obtain ⟨a3, c3, rfl⟩ := hs3.shape
    have B3 := Lib.hid (below_step hb3 B2.out)
    clear hs3 hb3 r0 r1 r2 rl
    go_upto_region 7 with fail
    go_loopw [5, 6] (fun t i wz => ∃ k : Nat, k ≤ cs.length ∧ i = .int .i64 k ∧ t = .int .i64 (totZ cs k : Nat) ∧ Hid (Below w3.heap.size w3 wz)) (fun _ i _ => cs.length - (intOf i).toNat)
    case atStart => exact ⟨0, by omega, rfl, by simp [totZ], Lib.hid (Below.refl _ _)⟩
    case round =>
      obtain ⟨k, hk, rfl, rfl, hB⟩ := hrel
      obtain ⟨wo, rfl⟩ : ∃ Z, Z = wr := ⟨_, rfl⟩
      by_cases hkx : k < cs.length
      · have hkI : (k : Int) < (cs.length : Int) := by omega
        have hk0 : (0 : Int) ≤ (k : Int) := by omega
        obtain ⟨_, _, ee, -, -, -, -, x5⟩ := HD.out.at hB.out
        simp only [Value.slice.injEq, true_and] at ee
        obtain ⟨rfl, rfl⟩ := ee
        obtain ⟨b1, o1, p1, n1, rfl, -, l1, c0, hX⟩ := x5.seq hkx
        have hri := Lib.hid (f1.out k hkx)
        have hto := Lib.hid (totZ_succ hkx)
        have htb : totZ cs (k + 1) ≤ 30 := by have := totZ_le cs (k + 1); have := f5.out; omega
        obtain ⟨tn, htn⟩ : ∃ t, t = totZ cs k := ⟨_, rfl⟩
        obtain ⟨tm, htm⟩ : ∃ t, t = totZ cs (k + 1) := ⟨_, rfl⟩
        have Htm := Lib.hid htm
        rw [← htn, ← htm] at hto
        rw [← htm] at htb
        rw [← htn]
        clear htn htm
        obtain ⟨xs, hri2, hxs⟩ : ∃ x : List Int, Hid (∀ k (hk : k + 1 < x.length), x[k] < x[k + 1]) ∧ x = cs[k] := ⟨cs[k], hri, rfl⟩
        rw [← hxs] at c0 hX hto
        have HX := Lib.hid hX
        have hxl : xs.length ≤ 140737488355328 := by obtain ⟨_, _, _, _, _, h, _⟩ := HX.out; exact h
        have hadd : (tn : Int) + (xs.length : Int) = (tm : Int) := by have := hto.out; omega
        have KX := fun {W' : World} (h : Below wo.heap.size wo W') => Lib.hid (show W'.cell? ⟨b1, o1 + k, none⟩ = some (.slice p1 xs.length n1) from (h.cell (p := ⟨b1, o1 + k, none⟩) l1).trans c0)
        clear x5 hX hxs hri
        go_upto_region 11 with fail
        clear c0 hadd
        go_loopw [7] (fun i wz => ∃ m : Nat, (m = 0 ∨ m < xs.length) ∧ i = .int .i64 (m + 1 : Nat) ∧ Hid (Below wo.heap.size wo wz)) (fun i _ => xs.length - (intOf i).toNat)
        case atStart => exact ⟨0, .inl rfl, rfl, Lib.hid (Below.refl _ _)⟩
        case round =>
          obtain ⟨m, hm, rfl, hB2⟩ := hrel
          have c0 := (KX hB2.out).out
          by_cases hmx : m + 1 < xs.length
          · obtain ⟨_, _, ee, -, -, -, -, x5⟩ := HX.out.at hB2.out
            simp only [Value.slice.injEq, true_and] at ee
            obtain ⟨rfl, rfl⟩ := ee
            obtain ⟨b3, o3, rfl, -, l3, c1, -⟩ := x5.int hmx
            obtain ⟨b4, o4, ee, -, l4, c2, -⟩ := x5.int (k := m) (by omega)
            simp only [Option.some.injEq, Addr.mk.injEq, and_true] at ee
            obtain ⟨rfl, rfl⟩ := ee
            have hri := hri2.out m hmx
            obtain ⟨xv, hxv⟩ : ∃ x, x = xs[m + 1] := ⟨_, rfl⟩
            obtain ⟨yv, hyv⟩ : ∃ x, x = xs[m]'(by omega) := ⟨_, rfl⟩
            rw [← hxv] at c1 hri
            rw [← hyv] at c2 hri
            clear hxv hyv x5
            have q6 : (xv ≤ yv) = False := eq_false (by omega)
            have hj0 : (0 : Int) ≤ (m : Int) := by omega
            have hjI : (m : Int) < (xs.length : Int) := by omega
            have hj2 : (0 : Int) ≤ (m : Int) + 1 := by omega
            have hj3 : (m : Int) + 1 < (xs.length : Int) := by omega
            have hkt : ((m : Int) + 1).toNat = m + 1 := by omega
            have hkw : IntKind.i64.wrap (m : Int) = (m : Int) := by rw [IntKind.wrap_i64]; omega
            go_upto_region 13 with fail
            go_quiet (fail)
            go_wp2_with fail
            go_roundw
            case rel => exact ⟨m + 1, .inr hmx, by go_num, Lib.hid (below_step Seq.way hB2.out)⟩
            case measure => simp [intOf]; omega
          · have hmI : ¬ (m : Int) + 1 < (xs.length : Int) := by omega
            rw [Htm.out]
            go_wp2_with fail
            go_roundw
            case rel => exact ⟨k + 1, hkx, by go_num, rfl, Lib.hid (below_step hB2.out hB.out)⟩
            case measure => simp [intOf]; omega
      obtain rfl : k = cs.length := by omega
      rw [f5.out]
      have hkI : ¬ (cs.length : Int) < (cs.length : Int) := by omega
      clear f1 f5 hkx hk
      go_upto_region 16 with fail
      go_loopw [8] (fun i wz => ∃ k : Nat, k ≤ r.tabs.length ∧ i = .int .i64 k ∧ Hid (Below w3.heap.size w3 wz)) (fun i _ => r.tabs.length - (intOf i).toNat)
      case atStart => exact ⟨0, by omega, rfl, Lib.hid hB.out⟩
      case round =>
        obtain ⟨i, hi, rfl, hB2⟩ := hrel
        obtain ⟨wp, rfl⟩ : ∃ Z, Z = wr := ⟨_, rfl⟩
        obtain ⟨r0, r1, r2, rl⟩ := (Kr (below_step hB2.out B3.out)).out
        by_cases hix : i < r.tabs.length
        · have hiI : (i : Int) < (r.tabs.length : Int) := by omega
          have hi0 : (0 : Int) ≤ (i : Int) := by omega
          have hpp := f2.out i hix
          have hfi := Lib.hid (f3.out i)
          obtain ⟨pi, hpi⟩ : ∃ p, p = placeZ cs (i : Int) := ⟨_, rfl⟩
          have Hpi := Lib.hid hpi
          rw [← hpi] at hpp hfi
          clear hpi
          have hpn : (pi < 0) = False := eq_false (by omega)
          go_upto_region 18 with fail
          go_wp2_with fail
          refine (placeL_spec (HD.out.at (below_step Seq.way hB2.out))).mono ?_
          rintro e _ ⟨rfl, rfl⟩
          rw [← Hpi.out]
          go_upto_region 21 with fail
          clear r0 r1 r2 rl hpp hpn
          go_loopw [9] (fun u wz => ∃ k : Nat, k ≤ i ∧ u = .int .i64 k ∧ Hid (Below wp.heap.size wp wz)) (fun u _ => i - (intOf u).toNat)
          case atStart => exact ⟨0, by omega, rfl, Lib.hid (Below.refl _ _)⟩
          case round =>
            obtain ⟨k, hk, rfl, hB3⟩ := hrel
            have Bz := Lib.hid (below_step hB3.out hB2.out)
            obtain ⟨r0, r1, r2, rl⟩ := (Kr (below_step Bz.out B3.out)).out
            by_cases hki : k < i
            · have hkI : (k : Int) < (i : Int) := by omega
              have hkn : k < r.tabs.length := by omega
              have hfk := Lib.hid (hfi.out k hix hkn)
              have h1 := Lib.hid (ReachR_spec (n := i) (HR.out.at (below_step Bz.out B3.out)) A.out.ok.rg hix A.out.ok.tl A.out.ok.ll)
              have h2 := Lib.hid (fun (W' : World) (h : Below wr.heap.size wr W') => ReachR_spec (w := W') (n := k) (HR.out.at (below_step (below_step h Bz.out) B3.out)) A.out.ok.rg hkn A.out.ok.tl A.out.ok.ll)
              obtain ⟨q1, hq1⟩ : ∃ q, q = natsZ (reachL (edgL r) r.tabs.length i) := ⟨_, rfl⟩
              obtain ⟨q2, hq2⟩ : ∃ q, q = natsZ (reachL (edgL r) r.tabs.length k) := ⟨_, rfl⟩
              obtain ⟨pk, hpk⟩ : ∃ p, p = placeZ cs (k : Int) := ⟨_, rfl⟩
              have Hpk := Lib.hid hpk
              rw [← hq1, ← hq2, ← hpk] at hfk
              rw [← hq1] at h1
              rw [← hq2] at h2
              clear hq1 hq2 hpk
              go_upto_region 23 with fail
              go_wp2_with fail
              refine h1.out.mono ?_
              clear h1
              rintro e w5 ⟨v5, rfl, hb5, hs5⟩
              obtain ⟨a5, c5, rfl⟩ := hs5.shape
              have B5 := Lib.hid hb5
              have HS5 := Lib.hid hs5
              clear hb5 hs5 r0 r1 r2 rl
              obtain ⟨r0, r1, r2, rl⟩ := (Kr (below_step (below_step B5.out Bz.out) B3.out)).out
              go_wp2_with fail
              refine (InT_spec HS5.out).mono ?_
              rintro e _ ⟨rfl, rfl⟩
              obtain ⟨d1, hd1⟩ : ∃ d, d = decide ((k : Int) ∈ q1) := ⟨_, rfl⟩
              rw [← hd1] at hfk ⊢
              clear hd1
              cases d1 with
              | false =>
                have hne := Lib.hid (show decide (pi = pk) = false by rw [← hfk.out]; rfl)
                clear hfk h2
                go_wp2_with fail
                refine (placeL_spec (HD.out.at (below_step B5.out Bz.out))).mono ?_
                rintro e _ ⟨rfl, rfl⟩
                rw [← Hpi.out]
                go_wp2_with fail
                refine (placeL_spec (HD.out.at (below_step B5.out Bz.out))).mono ?_
                rintro e _ ⟨rfl, rfl⟩
                rw [← Hpk.out]
                have hne1 := of_decide_eq_false hne.out
                have hne2 : (pi == pk) = false := by simpa using hne1
                go_wp2_with fail
                go_roundw
                case rel => exact ⟨k + 1, hki, by go_num, Lib.hid (below_step B5.out hB3.out)⟩
                case measure => simp [intOf]; omega
              | true =>
                go_wp2_with fail
                refine (h2.out _ B5.out).mono ?_
                clear h2
                rintro e w6 ⟨v6, rfl, hb6, hs6⟩
                obtain ⟨a6, c6, rfl⟩ := hs6.shape
                have B6 := Lib.hid (below_step hb6 B5.out)
                have HS6 := Lib.hid hs6
                clear hb6 hs6 r0 r1 r2 rl
                go_wp2_with fail
                refine (InT_spec HS6.out).mono ?_
                rintro e _ ⟨rfl, rfl⟩
                have hde := Lib.hid (show decide ((i : Int) ∈ q2) = decide (pi = pk) by rw [← hfk.out, Bool.true_and])
                rw [hde.out]
                clear hde hfk
                go_wp2_with fail
                refine (placeL_spec (HD.out.at (below_step B6.out Bz.out))).mono ?_
                rintro e _ ⟨rfl, rfl⟩
                rw [← Hpi.out]
                go_wp2_with fail
                refine (placeL_spec (HD.out.at (below_step B6.out Bz.out))).mono ?_
                rintro e _ ⟨rfl, rfl⟩
                rw [← Hpk.out]
                by_cases hpe : pi = pk
                · have hpe1 : decide (pi = pk) = true := decide_eq_true hpe
                  have hpe2 : (pi == pk) = true := by simpa using hpe
                  clear hpe
                  go_wp2_with fail
                  go_roundw
                  case rel => exact ⟨k + 1, hki, by go_num, Lib.hid (below_step B6.out hB3.out)⟩
                  case measure => simp [intOf]; omega
                · have hpe1 : decide (pi = pk) = false := decide_eq_false hpe
                  have hpe2 : (pi == pk) = false := by simpa using hpe
                  go_wp2_with fail
                  go_roundw
                  case rel => exact ⟨k + 1, hki, by go_num, Lib.hid (below_step B6.out hB3.out)⟩
                  case measure => simp [intOf]; omega
            · have hkI : ¬ (k : Int) < (i : Int) := by omega
              go_wp2_with fail
              go_roundw
              case rel => exact ⟨i + 1, hix, by go_num, Lib.hid Bz.out⟩
              case measure => simp [intOf]; omega
        have hiI : ¬ (i : Int) < (r.tabs.length : Int) := by omega
        clear f2 f3
        go_upto_region 27 with fail
        clear hiI hix hi r0 r1 r2 rl
        go_loopw [11] (fun u wz => ∃ k : Nat, k ≤ r.lks.length ∧ u = .int .i64 k ∧ Hid (Below w3.heap.size w3 wz)) (fun u _ => r.lks.length - (intOf u).toNat)
        case atStart => exact ⟨0, by omega, rfl, Lib.hid hB2.out⟩
        case round =>
          obtain ⟨k, hk, rfl, hB3⟩ := hrel
          obtain ⟨r0, r1, r2, rl⟩ := (Kr (below_step hB3.out B3.out)).out
          by_cases hkx : k < r.lks.length
          · obtain ⟨_, _, ee, -, -, -, -, x5⟩ := HE.out.at (below_step hB3.out B3.out)
            simp only [Value.slice.injEq, true_and] at ee
            obtain ⟨rfl, rfl⟩ := ee
            obtain ⟨b1, o1, rfl, -, l1, c0, c1, ok1, ok2⟩ := x5.edg hkx
            have hin := f4.out k hkx
            obtain ⟨⟨ea, eb⟩, hee⟩ : ∃ e, e = r.lks[k] := ⟨_, rfl⟩
            simp only [← hee] at c0 c1 hin
            obtain ⟨pa, hpa⟩ : ∃ p, p = placeZ cs ea := ⟨_, rfl⟩
            obtain ⟨pb, hpb⟩ : ∃ p, p = placeZ cs eb := ⟨_, rfl⟩
            rw [← hpa, ← hpb] at hin
            have Hpa := Lib.hid hpa
            have Hpb := Lib.hid hpb
            have hgt : (pa < pb) = False := eq_false (by omega)
            have hgt2 : (pb > pa) = False := eq_false (by omega)
            have hkI : (k : Int) < (r.lks.length : Int) := by omega
            have hk0 : (0 : Int) ≤ (k : Int) := by omega
            clear hee x5 ok1 ok2 hpa hpb hin
            have HDz := Lib.hid (HD.out.at hB3.out)
            have Kq := fun {W' : World} (h : Below wr.heap.size wr W') => Lib.hid (show W'.cell? ⟨bt, 0, none⟩ = some (.slice ta r.tabs.length tc) ∧ W'.cell? ⟨bt, 1, none⟩ = some (.slice ia il ic) ∧ W'.cell? ⟨bt, 2, none⟩ = some (.slice (some ⟨b1, o1, none⟩) r.lks.length lc) ∧ W'.cell? ⟨b1, o1 + k * 2, none⟩ = some (.int .i64 ea) ∧ W'.cell? ⟨b1, o1 + k * 2 + 1, none⟩ = some (.int .i64 eb) from
              ⟨((Kr (below_step (below_step h hB3.out) B3.out)).out).1, ((Kr (below_step (below_step h hB3.out) B3.out)).out).2.1, ((Kr (below_step (below_step h hB3.out) B3.out)).out).2.2.1, (h.cell (p := ⟨b1, o1 + k * 2, none⟩) l1).trans c0, (h.cell (p := ⟨b1, o1 + k * 2 + 1, none⟩) l1).trans c1⟩)
            go_upto_region 29 with fail
            clear r0 r1 r2 rl c0 c1
            go_region_held3 (fun w' => w'.cell? ⟨bt, 0, none⟩ = some (.slice ta r.tabs.length tc) ∧ w'.cell? ⟨bt, 1, none⟩ = some (.slice ia il ic) ∧ w'.cell? ⟨bt, 2, none⟩ = some (.slice (some ⟨b1, o1, none⟩) r.lks.length lc) ∧ w'.cell? ⟨b1, o1 + k * 2, none⟩ = some (.int .i64 ea) ∧ w'.cell? ⟨b1, o1 + k * 2 + 1, none⟩ = some (.int .i64 eb))
              (first | exact (Kq (Below.refl _ _)).out | exact (Kq Seq.way).out | go_keep)
              (first
                | (go_at_call 7; refine (placeL_spec (HDz.out.at Seq.way)).mono ?_; rintro e _ ⟨rfl, rfl⟩; first | rw [← Hpa.out] | rw [← Hpb.out]))
            go_wp2_with fail
            go_roundw
            case rel => exact ⟨k + 1, hkx, by go_num, Lib.hid (below_step Seq.way hB3.out)⟩
            case measure => simp [intOf]; omega
          · have hkI : ¬ (k : Int) < (r.lks.length : Int) := by omega
            go_wp2_with fail
            go_ret
            exact ⟨rfl, below_step (below_step hB3.out B3.out) HBW.out⟩
end Go.Proofs.Ytbcambjonjhopaa
