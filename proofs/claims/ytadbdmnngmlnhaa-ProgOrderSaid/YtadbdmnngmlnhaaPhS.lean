/-
  Layer 7: the walk of ProgFacts.
-/
import Derived.Test.YtadbdmnngmlnhaaPhR
import Derived.Test.YtadbdmnngmlnhaaPgY
import Derived.Test.YtadbdmnngmlnhaaPgR
namespace Go.Proofs.Ytadbdmnngmlnhaa
open Go Go.RowKit

theorem ClsV.box {w : World} {v : Value} {c : Cls} (h : ClsV (fun _ => True) w v c) : ∃ vh vb, v = .agg #[vh, vb] ∧ BoxC (w.alloc (.cells #[vh, vb] 31)) w.heap.size vh vb c := by
  obtain ⟨ha, hc, la, lc, rfl, h1, h2⟩ := h
  have r := Row.new w [.slice ha c.head.length hc, .slice la c.body.length lc] 31 rfl
  exact ⟨_, _, rfl, r.cell (j := 0) (by simp), r.cell (j := 1) (by simp), r.lt, h1.at Seq.way, h2.at Seq.way⟩
theorem seq_cls1 {w : World} {vh vb : Value} {c : Cls} (h : ClsV (fun _ => True) w (.agg #[vh, vb]) c) : Seq clsE (fun _ => True) (w.alloc (.cells #[vh, vb] 31)) (.slice (some ⟨w.heap.size, 0, none⟩) 1 1) [c] := by
  obtain ⟨ha, hc, la, lc, he, h1, h2⟩ := h
  simp only [Value.agg.injEq, Array.mk.injEq, List.cons.injEq, and_true] at he
  obtain ⟨rfl, rfl⟩ := he
  refine seq_clss (show Row 31 _ w.heap.size (pairs2 [(_, _)]) from Row.new w [_, _] _ rfl) rfl (show 1 ≤ 1000 by decide) trivial fun k x hk => ?_
  match k, hk with
  | 0, hk => obtain rfl := Option.some.inj hk; exact ⟨_, _, rfl, h1.at Seq.way, h2.at Seq.way⟩
theorem BoxC.shape {w : World} {b : Nat} {vh vb : Value} {c : Cls} (h : BoxC w b vh vb c) : ∃ ha hc la lc, vh = .slice ha c.head.length hc ∧ vb = .slice la c.body.length lc := by
  obtain ⟨-, -, -, h1, h2⟩ := h
  obtain ⟨ha, hc, rfl, -⟩ := id h1
  obtain ⟨la, lc, rfl, -⟩ := id h2
  exact ⟨ha, hc, la, lc, rfl, rfl⟩
def bodyV (c : Cls) (k : Nat) : List Int := (c.body.take k).flatMap fun b => varsL b.t
theorem bodyV_succ {c : Cls} {k : Nat} (h : k < c.body.length) : bodyV c (k + 1) = bodyV c k ++ varsL c.body[k].t := by
  unfold bodyV; rw [List.take_succ_eq_append_getElem h, List.flatMap_append]; simp
theorem bodyV_all {c : Cls} {v : Int} : v ∈ bodyV c c.body.length ↔ ∃ b ∈ c.body, v ∈ varsL b.t := by
  unfold bodyV; rw [List.take_length, List.mem_flatMap]
theorem right_len {t : List Cell} (h : RightT t) : t.length ≤ 200 := h.1

set_option maxHeartbeats 12800000 in
set_option maxRecDepth 100000 in
theorem facts_spec {S : Nat → Prop} {w : World} {v : Value} {c : Cls} (hc : ClsV S w v c) : Calls Try.prog 4 #[v] w (RetV (.bool true) w) := by
  obtain ⟨vh, vb, rfl, hB⟩ := hc.any.box
  obtain ⟨W, hW⟩ : ∃ W, W = w.alloc (.cells #[vh, vb] 31) := ⟨_, rfl⟩
  obtain ⟨bc, hbc⟩ : ∃ b, b = w.heap.size := ⟨_, rfl⟩
  have HBW := Lib.hid (show Below w.heap.size w W by rw [hW]; exact Seq.way)
  rw [← hW, ← hbc] at hB
  obtain ⟨ha, hcc, la, lc, rfl, rfl⟩ := hB.shape
  have HB := Lib.hid hB
  have HW := Lib.hid hW
  have Hbc := Lib.hid hbc
  clear hW hbc hB hc
  have hfB := fun {w' : World} (h : Below W.heap.size W w') => Lib.hid (HB.out.at h)
  go_enter Try.func4, Try.ntmps4
  go_upto_region 1 with fail
  rw [← HW.out, ← Hbc.out]
  go_wp2_with fail
  refine head_spec.mono ?_
  rintro e w1 ⟨rfl, hb1⟩
  have B1 := Lib.hid hb1
  obtain ⟨m0, m1, -, -, -⟩ := (hfB hb1).out
  have HL1 := Lib.hid (seq_cls1 (hfB hb1).out.clsV)
  clear hb1
  go_wp2_with fail
  refine (GreatL_spec HL1.out).mono ?_
  rintro e w2 ⟨rfl, hb2⟩
  have B2 := Lib.hid (below_step (below_step hb2 Seq.way) B1.out)
  clear hb2 m0 m1
  cases hg : greatC [c] with
  | true =>
    clear hg
    go_wp2_with fail
    go_ret
    exact ⟨rfl, below_step B2.out HBW.out⟩
  | false =>
    obtain ⟨m0, m1, -, -, -⟩ := (hfB B2.out).out
    clear hg
    go_wp2_with fail
    refine (MayR_spec ((hfB (below_step Seq.way B2.out)).out.clsV)).mono ?_
    rintro e w3 ⟨rfl, hb3⟩
    have B3 := Lib.hid (below_step (below_step hb3 Seq.way) B2.out)
    clear hb3 m0 m1
    cases hm : mayC c with
    | false =>
      clear hm
      go_wp2_with fail
      go_ret
      exact ⟨rfl, below_step B3.out HBW.out⟩
    | true =>
      have HM := Lib.hid hm
      obtain ⟨m0, m1, -, -, -⟩ := (hfB B3.out).out
      clear hm
      go_upto_region 5 with fail
      have hal := Lib.hid (safe_alone (g := c.head) (mayC_iff.1 HM.out).2.1)
      obtain ⟨mp1, mp2, mp3⟩ := mayC_parts HM.out
      have HMb := Lib.hid mp1
      have hhl := Lib.hid (show c.head.length ≤ 1000000000 by have := right_len mp2; omega)
      obtain ⟨W4, hW4⟩ : ∃ W4, W4 = w3.alloc (.cells #[.slice ha c.head.length hcc, .slice none 0 0] 31) := ⟨_, rfl⟩
      have B4 := Lib.hid (show Below W.heap.size W W4 by rw [hW4]; exact below_step Seq.way B3.out)
      have HR4 := Lib.hid (show RowA 31 W4 w3.heap.size [.slice ha c.head.length hcc, .slice none 0 0] by rw [hW4]; exact Row.new w3 [_, _] _ rfl)
      obtain ⟨b4, hb4⟩ : ∃ b, b = w3.heap.size := ⟨_, rfl⟩
      have Hb4 := Lib.hid hb4
      have Kr := fun {W' : World} (h : Below W4.heap.size W4 W') => Lib.hid (show W'.cell? ⟨b4, 0, none⟩ = some (.slice ha c.head.length hcc) ∧ W'.cell? ⟨b4, 1, none⟩ = some (.slice none 0 0) ∧ W'.cell? ⟨bc, 0, none⟩ = some (.slice ha c.head.length hcc) from by
        rw [Hb4.out]; exact ⟨(HR4.out.at h).row.cell (j := 0) (by simp), (HR4.out.at h).row.cell (j := 1) (by simp), (hfB (below_step h B4.out)).out.1⟩)
      have h1 := Lib.hid (fun (W' : World) (h : Below W4.heap.size W4 W') => SafeP_spec (w := W') (c := ⟨c.head, []⟩) ⟨ha, hcc, none, 0, rfl, (hfB (below_step h B4.out)).out.2.2.2.1, Seq.nil _ _ _⟩)
      have h2 := Lib.hid (fun (W' : World) (h : Below W4.heap.size W4 W') => GroundR_spec (w := W') (hfB (below_step h B4.out)).out.2.2.2.1 hhl.out)
      rw [hal.out] at h1
      obtain ⟨q, hq⟩ : ∃ q, q = groundT c.head := ⟨_, rfl⟩
      rw [← hq] at h1 h2
      have HW4 := Lib.hid hW4
      clear hq hW4 hb4 m0 m1 mp1 mp2 mp3
      rw [← HW4.out, ← Hb4.out]
      go_region_held3 (fun w' => w'.cell? ⟨b4, 0, none⟩ = some (.slice ha c.head.length hcc) ∧ w'.cell? ⟨b4, 1, none⟩ = some (.slice none 0 0) ∧ w'.cell? ⟨bc, 0, none⟩ = some (.slice ha c.head.length hcc))
        (first | exact (Kr (Below.refl _ _)).out | exact (Kr Seq.way).out | go_keep)
        (first
          | (go_at_call 13; refine (h1.out _ Seq.way).mono ?_; rintro e y1 ⟨rfl, hb1⟩; have hb1w : Below W4.heap.size W4 y1 := below_step hb1 Seq.way)
          | (go_at_call 29; refine (h2.out _ Seq.way).mono ?_; rintro e y2 ⟨rfl, hb2⟩; have hb2w : Below W4.heap.size W4 y2 := below_step hb2 Seq.way))
      have B5 := Lib.hid (below_step (below_step Seq.way hb2w) B4.out)
      clear hb1 hb2 hb1w hb2w Kr h1 h2 B1 B2 B3 B4 HL1
      obtain ⟨m0, m1, -, -, -⟩ := (hfB B5.out).out
      go_wp2_with fail
      refine (SafeP_spec (hfB (below_step Seq.way B5.out)).out.clsV).mono ?_
      rintro e w6 ⟨rfl, hb6⟩
      have B6 := Lib.hid (below_step (below_step hb6 Seq.way) B5.out)
      clear hb6 m0 m1
      cases hs : safeC c with
      | false =>
        clear hs
        go_wp2_with fail
        go_ret
        exact ⟨rfl, below_step B6.out HBW.out⟩
      | true =>
        have hsv := Lib.hid (safe_vars hs)
        have hbl := (mayC_parts HM.out).2.2
        clear hs
        obtain ⟨m0, m1, -, -, -⟩ := (hfB B6.out).out
        go_wp2_with fail
        clear m0 m1
        go_loopw [5, 6] (fun o i wr => ∃ k : Nat, k ≤ c.body.length ∧ i = .int .i64 k ∧ Hid ((bodyV c k).length ≤ 200 * k) ∧ Hid (Own intE (fun _ => True) W.heap.size 3 wr o (bodyV c k)) ∧ Hid (Below W.heap.size W wr)) (fun _ i _ => c.body.length - (intOf i).toNat)
        case atStart => exact ⟨0, Nat.zero_le _, rfl, Lib.hid (by simp [bodyV]), Lib.hid (Own.lit0 rfl B6.out.size rfl), Lib.hid (below_step Seq.way B6.out)⟩
        case round =>
          obtain ⟨k, hk, rfl, hln, hO, hbr⟩ := hrel
          have hzr := hbr.out.size
          obtain ⟨m0, m1, -, -, hBs⟩ := (hfB hbr.out).out
          by_cases hlt : k < c.body.length
          · obtain ⟨_, _, ee, -, -, -, -, x5⟩ := hBs
            simp only [Value.slice.injEq, true_and] at ee
            obtain ⟨rfl, rfl⟩ := ee
            obtain ⟨b1, o1, p1, n1, rfl, -, l1, c0, c1, hX⟩ := x5.lit hlt
            have HX := Lib.hid hX
            have hst := Lib.hid (bodyV_succ hlt)
            have hxl := right_len (HMb.out _ (List.getElem_mem hlt))
            obtain ⟨x, hx⟩ : ∃ x, x = c.body[k].t := ⟨_, rfl⟩
            rw [← hx] at c1 HX hst hxl
            have hkl : (k : Int) < (c.body.length : Int) := by omega
            have hk0 : (0 : Int) ≤ (k : Int) := by omega
            have hvl := varsL_len x
            clear hx x5 hX c0
            go_wp2_with fail
            refine (VarsR_spec (HX.out.at Seq.way) (by omega)).mono ?_
            rintro e y1 ⟨v1, rfl, hb1, hs1⟩
            replace hb1 := below_step hb1 (Seq.way : Below wr.heap.size wr _)
            obtain ⟨V, hV⟩ : ∃ V, V = varsL x := ⟨_, rfl⟩
            rw [← hV] at hs1 hst hvl
            have HVs := Lib.hid (show Seq intE (fun b => wr.heap.size ≤ b) y1 v1 V from hs1.mono (fun b h _ => by simpa using h) fun _ _ _ => rfl)
            obtain ⟨va, vc, rfl⟩ := hs1.shape
            have Hb1 := Lib.hid hb1
            have hln2 := hln.out
            clear hs1 hb1 hV c1 m0 m1
            go_wp2_with (at_builtin; (refine wpList_appL (S := fun _ => True) (base := W.heap.size) (wm := wr) (zs := bodyV c k ++ V) rfl _ _ 33 rfl Try.underlying33 infoInt rfl rfl hO.out (below_step Seq.way Hb1.out) rfl (HVs.out.at Seq.way) (fun b h _ => ⟨trivial, .inr h⟩) rfl (by omega) (by simp; omega) hzr ?_))
            intro oa5 oc5 w5 hown5 hk5
            have H5 := Lib.hid hown5
            have K5 := Lib.hid (hbr.out.trans (Below.trans (Below.mono (below_step (Seq.way : Below y1.heap.size y1 _) Hb1.out) hzr) hk5.below))
            clear hown5 hk5
            go_wp2_with fail
            go_roundw
            case rel => exact ⟨k + 1, hlt, by go_num, Lib.hid (by rw [hst.out, List.length_append]; omega), Lib.hid (by rw [hst.out]; exact H5.out), K5⟩
            case measure => simp [intOf]; omega
          · have hke := Lib.hid (show bodyV c k = bodyV c c.body.length by rw [show k = c.body.length by omega])
            have hkl : ¬ (k : Int) < (c.body.length : Int) := by omega
            have hall := Lib.hid (hO.out.seqB (T := fun _ => True) (by have := hln.out; omega) fun _ _ _ => trivial)
            obtain ⟨oa, oc, rfl⟩ := hall.out.shape
            clear hlt hBs
            go_wp2_with fail
            refine (VarsR_spec ((hfB hbr.out).out.2.2.2.1.at Seq.way) hhl.out).mono ?_
            rintro e y3 ⟨v3, rfl, hb3, hs3⟩
            replace hb3 := below_step hb3 (Seq.way : Below wr.heap.size wr _)
            have HVs := Lib.hid hs3
            obtain ⟨va, vc, rfl⟩ := hs3.shape
            have Hb3 := Lib.hid hb3
            have hall3 := Lib.hid (hall.out.at hb3)
            obtain ⟨V, hV⟩ : ∃ V, V = varsL c.head := ⟨_, rfl⟩
            rw [← hV] at hsv HVs ⊢
            have hVl : V.length ≤ 140737488355328 := by obtain ⟨_, _, _, _, _, h, _⟩ := HVs.out; exact h
            clear hs3 hb3 hV m0 m1
            go_wp2_with fail
            go_loopw [8] (fun i wz => ∃ j : Nat, j ≤ V.length ∧ i = .int .i64 j ∧ y3 = wz) (fun i _ => V.length - (intOf i).toNat)
            case atStart => exact ⟨0, Nat.zero_le _, rfl, rfl⟩
            case round =>
              obtain ⟨j, hj, rfl, rfl⟩ := hrel
              by_cases hjl : j < V.length
              · obtain ⟨_, _, ee, -, -, -, -, x6⟩ := HVs.out
                simp only [Value.slice.injEq, true_and] at ee
                obtain ⟨rfl, rfl⟩ := ee
                obtain ⟨b2, o2, rfl, -, l2, e0, -⟩ := x6.int hjl
                have hin := Lib.hid (show decide (V[j] ∈ bodyV c k) = true from decide_eq_true (by rw [hke.out, bodyV_all]; exact hsv.out _ (List.getElem_mem hjl)))
                obtain ⟨t, ht⟩ : ∃ t, t = V[j] := ⟨_, rfl⟩
                rw [← ht] at e0 hin
                have hjI : (j : Int) < (V.length : Int) := by omega
                have hj0 : (0 : Int) ≤ (j : Int) := by omega
                clear ht x6
                go_wp2_with fail
                refine (InT_spec (n := t) hall3.out).mono ?_
                rw [hin.out]
                rintro e y4 ⟨rfl, rfl⟩
                go_wp2_with fail
                go_roundw
                case rel => exact ⟨j + 1, hjl, by go_num, by first | rfl | trivial⟩
                case measure => simp [intOf]; omega
              · have hjI : ¬ (j : Int) < (V.length : Int) := by omega
                clear hjl
                go_wp2_with fail
                go_ret
                exact ⟨rfl, below_step (below_step (below_step Seq.way Hb3.out) hbr.out) HBW.out⟩
end Go.Proofs.Ytadbdmnngmlnhaa
