/-
  Layer 14, the law: SpaceFinds.
-/
import Derived.Test.YtckkjjiaecnciaaGreatSpU
namespace Go.Proofs.YtckkjjiaecnciaaGreat
open Go Go.RowKit

/-- What was wanted so far. -/
structure WantI (s : List Tab) (c : List Cell) (k : Nat) (z : Int) : Prop where
  all : ∀ j (hj : j < s.length), j < k → s[j].call = numT c → z = (j : Int)
  one : z = -1 ∨ ∃ j, ∃ hj : j < s.length, j < k ∧ s[j].call = numT c ∧ z = (j : Int)
theorem WantI.zero (s : List Tab) (c : List Cell) : WantI s c 0 (-1) := ⟨fun _ _ h => absurd h (Nat.not_lt_zero _), .inl rfl⟩
theorem WantI.yes {s : List Tab} (hg : GoodS s) {c : List Cell} {k : Nat} {z : Int} (_ : WantI s c k z) (hk : k < s.length) (h1 : s[k].call = numT c) : WantI s c (k + 1) (k : Int) := by
  refine ⟨fun j hj hjk e => ?_, .inr ⟨k, hk, Nat.lt_succ_self _, h1, rfl⟩⟩
  rw [hg.one j k hj hk (by rw [e, h1])]
theorem WantI.no {s : List Tab} {c : List Cell} {k : Nat} {z : Int} (h : WantI s c k z) (hk : k < s.length) (h1 : s[k].call ≠ numT c) : WantI s c (k + 1) z := by
  refine ⟨fun j hj hjk e => ?_, ?_⟩
  · rcases Nat.lt_or_ge j k with h2 | h2
    · exact h.all j hj h2 e
    · obtain rfl : j = k := by omega
      exact absurd e h1
  · rcases h.one with h2 | ⟨j, hj, h2, h3, h4⟩
    · exact .inl h2
    · exact .inr ⟨j, hj, by omega, h3, h4⟩
theorem WantI.fin {s : List Tab} {c : List Cell} {z : Int} (h : WantI s c s.length z) : findTb s c = z := by
  rcases h.one with h1 | ⟨j, hj, -, h2, h3⟩
  · rw [h1]
    refine idxZ_miss fun j hj => decide_eq_false fun e => ?_
    have := h.all j hj hj e
    omega
  · rw [h3]
    refine idxZ_hit hj (decide_eq_true h2) fun i hi hij => decide_eq_false fun e => ?_
    have := h.all i hi hi e
    omega

set_option maxHeartbeats 12800000 in
set_option maxRecDepth 100000 in
theorem finds_spec {S T : Nat → Prop} {w : World} {v u : Value} {s : List Tab} {c : List Cell} (hs : Seq tabE S w v s) (hc : Seq cellE T w u c) :
    Calls Tryz.prog 4 #[v, u] w (RetV (.bool true) w) := by
  have S_0 := Lib.hid hs
  have C_0 := Lib.hid hc
  obtain ⟨aa, ac, rfl⟩ := hs.shape
  obtain ⟨ca, cc, rfl⟩ := hc.shape
  clear hs hc
  go_enter Tryz.func4, Tryz.ntmps4
  go_wp2_with fail
  refine (head_spec).mono ?_
  rintro e y1 ⟨rfl, hy1⟩
  have D1 := Lib.hid (below_step hy1 (Seq.way : Below w.heap.size w _))
  have S_1 := Lib.hid (S_0.out.at D1.out)
  have C_1 := Lib.hid (C_0.out.at D1.out)
  have B1 := Lib.hid D1.out
  clear S_0
  clear C_0
  clear hy1 D1
  cases hf : fewB s with
  | false =>
    go_wp2_with fail
    refine (few14 hf (S_1.out.at Seq.way)).mono ?_
    rintro e y2 ⟨rfl, hy2⟩
    have D2 := Lib.hid (below_step hy2 (Seq.way : Below y1.heap.size y1 _))
    have S_2 := Lib.hid (S_1.out.at D2.out)
    have C_2 := Lib.hid (C_1.out.at D2.out)
    have B2 := Lib.hid (below_step D2.out B1.out)
    clear S_1
    clear C_1
    clear hy2 D2
    go_wp2_with fail
    go_ret
    exact ⟨rfl, B2.out⟩
  | true =>
    go_wp2_with fail
    refine (few14 hf (S_1.out.at Seq.way)).mono ?_
    rintro e y2 ⟨rfl, hy2⟩
    have D2 := Lib.hid (below_step hy2 (Seq.way : Below y1.heap.size y1 _))
    have S_2 := Lib.hid (S_1.out.at D2.out)
    have C_2 := Lib.hid (C_1.out.at D2.out)
    have B2 := Lib.hid (below_step D2.out B1.out)
    clear S_1
    clear C_1
    clear hy2 D2
    cases hr : rightTs s with
    | false =>
      go_wp2_with fail
      refine (rightR14 hr (S_2.out.at Seq.way) hf).mono ?_
      rintro e y3 ⟨rfl, hy3⟩
      have D3 := Lib.hid (below_step hy3 (Seq.way : Below y2.heap.size y2 _))
      have S_3 := Lib.hid (S_2.out.at D3.out)
      have C_3 := Lib.hid (C_2.out.at D3.out)
      have B3 := Lib.hid (below_step D3.out B2.out)
      clear S_2
      clear C_2
      clear hy3 D3
      go_wp2_with fail
      go_ret
      exact ⟨rfl, B3.out⟩
    | true =>
      go_wp2_with fail
      refine (rightR14 hr (S_2.out.at Seq.way) hf).mono ?_
      rintro e y3 ⟨rfl, hy3⟩
      have D3 := Lib.hid (below_step hy3 (Seq.way : Below y2.heap.size y2 _))
      have S_3 := Lib.hid (S_2.out.at D3.out)
      have C_3 := Lib.hid (C_2.out.at D3.out)
      have B3 := Lib.hid (below_step D3.out B2.out)
      clear S_2
      clear C_2
      clear hy3 D3
      by_cases hcl : (c.length : Int) > 210
      · go_wp2_with fail
        go_ret
        exact ⟨rfl, B3.out⟩
      · cases hrc : rightT c with
        | false =>
          go_wp2_with fail
          refine (rightR1 hrc (C_3.out.at Seq.way)).mono ?_
          rintro e y4 ⟨rfl, hy4⟩
          have D4 := Lib.hid (below_step hy4 (Seq.way : Below y3.heap.size y3 _))
          have S_4 := Lib.hid (S_3.out.at D4.out)
          have C_4 := Lib.hid (C_3.out.at D4.out)
          have B4 := Lib.hid (below_step D4.out B3.out)
          clear S_3
          clear C_3
          clear hy4 D4
          go_wp2_with fail
          go_ret
          exact ⟨rfl, B4.out⟩
        | true =>
          go_wp2_with fail
          refine (rightR1 hrc (C_3.out.at Seq.way)).mono ?_
          rintro e y4 ⟨rfl, hy4⟩
          have D4 := Lib.hid (below_step hy4 (Seq.way : Below y3.heap.size y3 _))
          have S_4 := Lib.hid (S_3.out.at D4.out)
          have C_4 := Lib.hid (C_3.out.at D4.out)
          have B4 := Lib.hid (below_step D4.out B3.out)
          clear S_3
          clear C_3
          clear hy4 D4
          have hG := good_of hf hr
          have hGl := hG.len
          have HG := Lib.hid hG
          have hcp : 0 < c.length := (of_decide_eq_true hrc : RightT c).pos
          have hcn : c.length ≤ 1000000 := by have := (of_decide_eq_true hrc : RightT c).1; omega
          have Hgt := Lib.hid (fun (i : Nat) (hi : i < s.length) => (good_tab hr hi).2.2.1)
          clear hG hf hr hrc
          obtain ⟨wb, rfl⟩ : ∃ wb, wb = y4 := ⟨_, rfl⟩
          go_wp2_with fail
          clear hcl
          go_loopw [6, 7] (fun z i wr => ∃ (k : Nat) (q : Int), k ≤ s.length ∧ i = .int .i64 k ∧ z = .int .i64 q ∧ Hid (WantI s c k q) ∧ Hid (Below wb.heap.size wb wr)) (fun _ i _ => s.length - (intOf i).toNat)
          case atStart => exact ⟨0, -1, Nat.zero_le _, rfl, rfl, Lib.hid (WantI.zero s c), Lib.hid (by first | exact Below.refl _ _ | exact Seq.way)⟩
          case round =>
            obtain ⟨k, q, hk, rfl, rfl, hW, hbr⟩ := hrel
            have HSr := Lib.hid (S_4.out.at hbr.out)
            have HCr := Lib.hid (C_4.out.at hbr.out)
            by_cases hlt : k < s.length
            · obtain ⟨_, _, ee, -, -, -, -, x5⟩ := HSr.out
              simp only [Value.slice.injEq, true_and] at ee
              obtain ⟨rfl, rfl⟩ := ee
              obtain ⟨b, off, ha, hc, la, lc, rfl, -, lb, c0, -, hH, -⟩ := x5.tab hlt
              have hgt := Lib.hid (Hgt.out k hlt)
              have hrx := HG.out.right _ (List.getElem_mem hlt)
              have hnum := HG.out.num _ (List.getElem_mem hlt)
              have hyes := Lib.hid (fun h : s[k].call = numT c => hW.out.yes HG.out hlt h)
              have hno := Lib.hid (fun h : s[k].call ≠ numT c => hW.out.no hlt h)
              have hxp := hrx.pos
              have hxl := hrx.1
              obtain ⟨x, hx⟩ : ∃ x, x = s[k] := ⟨_, rfl⟩
              rw [← hx] at c0 hH hgt hrx hnum hyes hno hxp hxl
              have HH := Lib.hid hH
              have hkI : (k : Int) < (s.length : Int) := by omega
              have hk0 : (0 : Int) ≤ (k : Int) := by omega
              have CV := Lib.hid (fun (V : World) (h : Below wr.heap.size wr V) => VariantR_spec (w := V) (HH.out.at h) (HCr.out.at h) hxp hcp (by omega) hcn)
              rw [hnum] at CV
              obtain ⟨wo, rfl⟩ : ∃ wo, wo = wr := ⟨_, rfl⟩
              clear hx hH x5 hrx hnum
              go_wp2_with fail
              refine (find14 hgt.out (HSr.out.at Seq.way) (HH.out.at Seq.way) hxp (by omega)).mono ?_
              rintro e z1 ⟨rfl, hz1⟩
              have Z1 := Lib.hid (below_step hz1 (Seq.way : Below wo.heap.size wo _))
              have d0 := (Z1.out.cell (p := ⟨b, off + k * 2, none⟩) lb).trans c0
              have dl := Nat.lt_of_lt_of_le lb Z1.out.size
              clear hz1 c0 lb
              go_wp2_with fail
              refine (CV.out _ (below_step Seq.way Z1.out)).mono ?_
              rintro e z2 ⟨rfl, hz2⟩
              have Z2 := Lib.hid (below_step (below_step hz2 (below_step Seq.way Z1.out)) hbr.out)
              clear hz2 d0 dl CV
              by_cases he : x.call = numT c
              · have hW2 := Lib.hid (hyes.out he)
                rw [decide_eq_true he]
                clear he hyes hno
                go_wp2_with fail
                go_roundw
                case rel => exact ⟨k + 1, k, hlt, by go_num, rfl, hW2, Z2⟩
                case measure => simp [intOf]; omega
              · have hW2 := Lib.hid (hno.out he)
                rw [decide_eq_false he]
                clear he hyes hno
                go_wp2_with fail
                go_roundw
                case rel => exact ⟨k + 1, q, hlt, by go_num, rfl, hW2, Z2⟩
                case measure => simp [intOf]; omega
            · obtain rfl : k = s.length := by omega
              have hkI : ¬ (s.length : Int) < (s.length : Int) := by omega
              have hfin := Lib.hid hW.out.fin
              go_wp2_with fail
              refine (find14 hfin.out (HSr.out.at Seq.way) (HCr.out.at Seq.way) hcp hcn).mono ?_
              rintro e z1 ⟨rfl, hz1⟩
              have Z1 := Lib.hid (below_step (below_step (below_step hz1 Seq.way) hbr.out) B4.out)
              clear hz1
              go_wp2_with fail
              go_ret
              exact ⟨rfl, Z1.out⟩
end Go.Proofs.YtckkjjiaecnciaaGreat
