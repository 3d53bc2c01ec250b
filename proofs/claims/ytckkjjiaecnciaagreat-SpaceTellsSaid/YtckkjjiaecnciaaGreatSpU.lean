/-
  Layer 14, the law: SpaceTells.
-/
import Derived.Test.YtckkjjiaecnciaaGreatSpR
namespace Go.Proofs.YtckkjjiaecnciaaGreat
open Go Go.RowKit

/-- An answer of a table, as a value. -/
def PutV (S : Nat → Prop) (w : World) (v : Value) (n : Int) (t : List Cell) : Prop := ∃ ta tc, v = .agg #[.int .i64 n, .slice ta t.length tc] ∧ IntOK n ∧ Seq cellE S w (.slice ta t.length tc) t
theorem rowK {T : TypeId} {w w' : World} {B : Nat} {vs : List Value} (h : Row T w B vs) (hb : Below w.heap.size w w') : Row T w' B vs := h.below hb h.lt
theorem answer_new (s : List Tab) (n : Int) (t : List Cell) : (answerT s n t).2 = newA s n t := by
  unfold answerT
  cases newA s n t <;> rfl
theorem openR14 {S T : Nat → Prop} {w : World} {v u : Value} {s r : List Tab} {c : List Cell} {z : Int} (h : openT s c = (r, z)) (hs : Seq tabE S w v s) (hc : Seq cellE T w u c) (pc : 0 < c.length) (lc : c.length ≤ 1000000) (hl : s.length ≤ 1000) :
    Calls Tryz.prog 13 #[v, u] w (fun e w' => ∃ ao ac, e = .returned (.tuple #[.slice ao r.length ac, .int .i64 z]) ∧ Below w.heap.size w w' ∧ Seq tabE (fun _ => True) w' (.slice ao r.length ac) r) :=
  (OpenR_spec hs hc pc lc hl).mono fun e w' ⟨o, he, hb, hs⟩ => by
    rw [h] at he hs
    obtain ⟨ao, ac, rfl⟩ := hs.shape
    exact ⟨ao, ac, he, hb, hs.mono (fun _ _ _ => trivial) fun _ _ _ => rfl⟩
theorem answerR14 {S T : Nat → Prop} {w : World} {v u : Value} {s r : List Tab} {t : List Cell} {n : Int} {b : Bool} (h : answerT s n t = (r, b)) (h2 : newA s n t = b) (hs : Seq tabE S w v s) (ht : Seq cellE T w u t) (hl : s.length ≤ 1000) (ha : ∀ x ∈ s, x.ans.length ≤ 1000000) :
    Calls Tryz.prog 15 #[v, .int .i64 n, u] w (fun e w' => ∃ ao ac, e = .returned (.tuple #[.slice ao r.length ac, .bool b]) ∧ Below w.heap.size w w' ∧ Seq tabE (fun _ => True) w' (.slice ao r.length ac) r) :=
  (AnswerR_spec hs ht hl ha).mono fun e w' ⟨o, he, hb, hs⟩ => by
    rw [h] at hs
    rw [h2] at he
    obtain ⟨ao, ac, rfl⟩ := hs.shape
    exact ⟨ao, ac, he, hb, hs.mono (fun _ _ _ => trivial) fun _ _ _ => rfl⟩
theorem sortR14 {S : Nat → Prop} {w : World} {v : Value} {s r : List Tab} {p : List Int} (h : sortTs s = r) (h2 : placesS s = p) (hs : Seq tabE S w v s) (hg : GoodS s) :
    Calls Tryz.prog 17 #[v] w (fun e w' => ∃ ao ac po pc, e = .returned (.tuple #[.slice ao r.length ac, .slice po p.length pc]) ∧ Below w.heap.size w w' ∧ Seq tabE (fun _ => True) w' (.slice ao r.length ac) r ∧ Seq intE (fun _ => True) w' (.slice po p.length pc) p) :=
  (SortR14_spec hs hg).mono fun e w' ⟨o, q, he, hb, h3, h4⟩ => by
    rw [h] at h3
    rw [h2] at h4
    obtain ⟨ao, ac, rfl⟩ := h3.shape
    obtain ⟨po, pc, rfl⟩ := h4.shape
    exact ⟨ao, ac, po, pc, he, hb, h3.mono (fun _ _ _ => trivial) fun _ _ _ => rfl, h4.mono (fun _ _ _ => trivial) fun _ _ _ => rfl⟩
theorem findR14 {S T : Nat → Prop} {w : World} {v u : Value} {s : List Tab} {c : List Cell} {z : Int} (h : findTb s c = z) (hs : Seq tabE S w v s) (hc : Seq cellE T w u c) (pc : 0 < c.length) (lc : c.length ≤ 1000000) : Calls Tryz.prog 19 #[v, u] w (RetV (.int .i64 z) w) := h ▸ FindR14_spec hs hc pc lc
theorem sameR14 {S T : Nat → Prop} {w : World} {v u : Value} {a : List Tab} (ha : Seq tabE S w v a) (hb : Seq tabE T w u a) : Calls Tryz.prog 20 #[v, u] w (RetV (.bool true) w) := by
  have h := SameR14_spec ha hb
  rwa [decide_eq_true rfl] at h
theorem rightR14 {S : Nat → Prop} {w : World} {v : Value} {s : List Tab} {b : Bool} (h : rightTs s = b) (hs : Seq tabE S w v s) (hf : fewB s = true) : Calls Tryz.prog 10 #[v] w (RetV (.bool b) w) := h ▸ RightR14_spec hs hf
theorem rightR1 {S : Nat → Prop} {w : World} {v : Value} {t : List Cell} {b : Bool} (h : rightT t = b) (hs : Seq cellE S w v t) : Calls Tryz.prog 11 #[v] w (RetV (.bool b) w) := h ▸ RightR_spec hs
theorem totalP14 {S : Nat → Prop} {w : World} {v : Value} {s : List Tab} {z : Nat} (h : totalT s = z) (hs : Seq tabE S w v s) (hl : s.length ≤ 1000) (ha : ∀ t ∈ s, t.ans.length ≤ 1000000) : Calls Tryz.prog 22 #[v] w (RetV (.int .i64 z) w) := h ▸ TotalP_spec hs hl ha
theorem totalR14 {S : Nat → Prop} {w : World} {v : Value} {s : List Tab} {z : Nat} (h : totalT s = z) (hs : Seq tabE S w v s) (hl : s.length ≤ 1000) (ha : ∀ t ∈ s, t.ans.length ≤ 1000000) : Calls Tryz.prog 23 #[v] w (RetV (.int .i64 z) w) := h ▸ TotalR_spec hs hl ha
theorem good_ans {s : List Tab} (h : GoodS s) : ∀ t ∈ s, t.ans.length ≤ 1000000 := fun t ht => Nat.le_trans (h.anl t ht) (by omega)

set_option maxHeartbeats 25600000 in
set_option maxRecDepth 100000 in
theorem tells_spec {S T U : Nat → Prop} {w : World} {v u x : Value} {s : List Tab} {c t : List Cell} {n : Int} (hs : Seq tabE S w v s) (hc : Seq cellE T w u c) (hx : PutV U w x n t) :
    Calls Tryz.prog 3 #[v, u, x] w (RetV (.bool true) w) := by
  obtain ⟨ta, tc, rfl, hn, ht⟩ := hx
  have HN := Lib.hid hn
  obtain ⟨W, hW⟩ : ∃ W, W = w.alloc (.cells #[.int .i64 n, .slice ta t.length tc] 25) := ⟨_, rfl⟩
  have HBW := Lib.hid (show Below w.heap.size w W by rw [hW]; exact Seq.way)
  have P_0 := Lib.hid (show Row 25 W w.heap.size [.int .i64 n, .slice ta t.length tc] by rw [hW]; exact Row.new w [_, _] 25 rfl)
  have S_0 := Lib.hid (hs.at HBW.out)
  have C_0 := Lib.hid (hc.at HBW.out)
  have T_0 := Lib.hid (ht.at HBW.out)
  have HW := Lib.hid hW
  obtain ⟨aa, ac, rfl⟩ := hs.shape
  obtain ⟨ca, cc, rfl⟩ := hc.shape
  obtain ⟨bq, hbq⟩ : ∃ b, b = w.heap.size := ⟨_, rfl⟩
  have Hbq := Lib.hid hbq
  rw [← hbq] at P_0
  clear hs hc ht hW hbq hn
  go_enter Tryz.func3, Tryz.ntmps3
  go_upto_region 1 with fail
  rw [← HW.out, ← Hbq.out]
  go_wp2_with fail
  refine (head_spec).mono ?_
  rintro e y1 ⟨rfl, hy1⟩
  have D1 := Lib.hid (below_step hy1 (Seq.way : Below W.heap.size W _))
  have P_1 := Lib.hid (rowK P_0.out D1.out)
  have S_1 := Lib.hid (S_0.out.at D1.out)
  have C_1 := Lib.hid (C_0.out.at D1.out)
  have T_1 := Lib.hid (T_0.out.at D1.out)
  have B1 := Lib.hid D1.out
  clear P_0
  clear S_0
  clear C_0
  clear T_0
  clear hy1 D1
  cases hf : fewB s with
  | false =>
    go_wp2_with fail
    refine (few14 hf (S_1.out.at Seq.way)).mono ?_
    rintro e y2 ⟨rfl, hy2⟩
    have D2 := Lib.hid (below_step hy2 (Seq.way : Below y1.heap.size y1 _))
    have P_2 := Lib.hid (rowK P_1.out D2.out)
    have S_2 := Lib.hid (S_1.out.at D2.out)
    have C_2 := Lib.hid (C_1.out.at D2.out)
    have T_2 := Lib.hid (T_1.out.at D2.out)
    have B2 := Lib.hid (below_step D2.out B1.out)
    clear P_1
    clear S_1
    clear C_1
    clear T_1
    clear hy2 D2
    go_wp2_with fail
    go_ret
    exact ⟨rfl, below_step B2.out HBW.out⟩
  | true =>
    go_wp2_with fail
    refine (few14 hf (S_1.out.at Seq.way)).mono ?_
    rintro e y2 ⟨rfl, hy2⟩
    have D2 := Lib.hid (below_step hy2 (Seq.way : Below y1.heap.size y1 _))
    have P_2 := Lib.hid (rowK P_1.out D2.out)
    have S_2 := Lib.hid (S_1.out.at D2.out)
    have C_2 := Lib.hid (C_1.out.at D2.out)
    have T_2 := Lib.hid (T_1.out.at D2.out)
    have B2 := Lib.hid (below_step D2.out B1.out)
    clear P_1
    clear S_1
    clear C_1
    clear T_1
    clear hy2 D2
    by_cases hcl : (c.length : Int) > 210
    · go_wp2_with fail
      go_ret
      exact ⟨rfl, below_step B2.out HBW.out⟩
    · have p0 := P_2.out.cell (j := 0) (by simp)
      have p1 := P_2.out.cell (j := 1) (by simp)
      have pl := P_2.out.lt
      simp only [List.getElem_cons_zero, List.getElem_cons_succ] at p0 p1
      by_cases htl : (t.length : Int) > 210
      · go_wp2_with fail
        go_ret
        exact ⟨rfl, below_step B2.out HBW.out⟩
      · cases hr : rightTs s with
        | false =>
          go_wp2_with fail
          refine (right14 hr (S_2.out.at Seq.way)).mono ?_
          rintro e y3 ⟨rfl, hy3⟩
          have D3 := Lib.hid (below_step hy3 (Seq.way : Below y2.heap.size y2 _))
          have P_3 := Lib.hid (rowK P_2.out D3.out)
          have S_3 := Lib.hid (S_2.out.at D3.out)
          have C_3 := Lib.hid (C_2.out.at D3.out)
          have T_3 := Lib.hid (T_2.out.at D3.out)
          have B3 := Lib.hid (below_step D3.out B2.out)
          clear P_2
          clear S_2
          clear C_2
          clear T_2
          clear hy3 D3
          clear p0 p1 pl
          go_wp2_with fail
          refine (rightR14 hr (S_3.out.at Seq.way) hf).mono ?_
          rintro e y4 ⟨rfl, hy4⟩
          have D4 := Lib.hid (below_step hy4 (Seq.way : Below y3.heap.size y3 _))
          have P_4 := Lib.hid (rowK P_3.out D4.out)
          have S_4 := Lib.hid (S_3.out.at D4.out)
          have C_4 := Lib.hid (C_3.out.at D4.out)
          have T_4 := Lib.hid (T_3.out.at D4.out)
          have B4 := Lib.hid (below_step D4.out B3.out)
          clear P_3
          clear S_3
          clear C_3
          clear T_3
          clear hy4 D4
          go_wp2_with fail
          refine (rightR14 hr (S_4.out.at Seq.way) hf).mono ?_
          rintro e y5 ⟨rfl, hy5⟩
          have D5 := Lib.hid (below_step hy5 (Seq.way : Below y4.heap.size y4 _))
          have P_5 := Lib.hid (rowK P_4.out D5.out)
          have S_5 := Lib.hid (S_4.out.at D5.out)
          have C_5 := Lib.hid (C_4.out.at D5.out)
          have T_5 := Lib.hid (T_4.out.at D5.out)
          have B5 := Lib.hid (below_step D5.out B4.out)
          clear P_4
          clear S_4
          clear C_4
          clear T_4
          clear hy5 D5
          go_wp2_with fail
          go_ret
          exact ⟨rfl, below_step B5.out HBW.out⟩
        | true =>
          go_wp2_with fail
          refine (right14 hr (S_2.out.at Seq.way)).mono ?_
          rintro e y3 ⟨rfl, hy3⟩
          have D3 := Lib.hid (below_step hy3 (Seq.way : Below y2.heap.size y2 _))
          have P_3 := Lib.hid (rowK P_2.out D3.out)
          have S_3 := Lib.hid (S_2.out.at D3.out)
          have C_3 := Lib.hid (C_2.out.at D3.out)
          have T_3 := Lib.hid (T_2.out.at D3.out)
          have B3 := Lib.hid (below_step D3.out B2.out)
          clear P_2
          clear S_2
          clear C_2
          clear T_2
          clear hy3 D3
          clear p0 p1 pl
          go_wp2_with fail
          refine (rightR14 hr (S_3.out.at Seq.way) hf).mono ?_
          rintro e y4 ⟨rfl, hy4⟩
          have D4 := Lib.hid (below_step hy4 (Seq.way : Below y3.heap.size y3 _))
          have P_4 := Lib.hid (rowK P_3.out D4.out)
          have S_4 := Lib.hid (S_3.out.at D4.out)
          have C_4 := Lib.hid (C_3.out.at D4.out)
          have T_4 := Lib.hid (T_3.out.at D4.out)
          have B4 := Lib.hid (below_step D4.out B3.out)
          clear P_3
          clear S_3
          clear C_3
          clear T_3
          clear hy4 D4
          go_wp2_with fail
          refine (rightR14 hr (S_4.out.at Seq.way) hf).mono ?_
          rintro e y5 ⟨rfl, hy5⟩
          have D5 := Lib.hid (below_step hy5 (Seq.way : Below y4.heap.size y4 _))
          have P_5 := Lib.hid (rowK P_4.out D5.out)
          have S_5 := Lib.hid (S_4.out.at D5.out)
          have C_5 := Lib.hid (C_4.out.at D5.out)
          have T_5 := Lib.hid (T_4.out.at D5.out)
          have B5 := Lib.hid (below_step D5.out B4.out)
          clear P_4
          clear S_4
          clear C_4
          clear T_4
          clear hy5 D5
          cases hrc : rightT c with
          | false =>
            go_wp2_with fail
            refine (rightR1 hrc (C_5.out.at Seq.way)).mono ?_
            rintro e y6 ⟨rfl, hy6⟩
            have D6 := Lib.hid (below_step hy6 (Seq.way : Below y5.heap.size y5 _))
            have P_6 := Lib.hid (rowK P_5.out D6.out)
            have S_6 := Lib.hid (S_5.out.at D6.out)
            have C_6 := Lib.hid (C_5.out.at D6.out)
            have T_6 := Lib.hid (T_5.out.at D6.out)
            have B6 := Lib.hid (below_step D6.out B5.out)
            clear P_5
            clear S_5
            clear C_5
            clear T_5
            clear hy6 D6
            go_wp2_with fail
            go_ret
            exact ⟨rfl, below_step B6.out HBW.out⟩
          | true =>
            go_wp2_with fail
            refine (rightR1 hrc (C_5.out.at Seq.way)).mono ?_
            rintro e y6 ⟨rfl, hy6⟩
            have D6 := Lib.hid (below_step hy6 (Seq.way : Below y5.heap.size y5 _))
            have P_6 := Lib.hid (rowK P_5.out D6.out)
            have S_6 := Lib.hid (S_5.out.at D6.out)
            have C_6 := Lib.hid (C_5.out.at D6.out)
            have T_6 := Lib.hid (T_5.out.at D6.out)
            have B6 := Lib.hid (below_step D6.out B5.out)
            clear P_5
            clear S_5
            clear C_5
            clear T_5
            clear hy6 D6
            have p0 := P_6.out.cell (j := 0) (by simp)
            have p1 := P_6.out.cell (j := 1) (by simp)
            have pl := P_6.out.lt
            simp only [List.getElem_cons_zero, List.getElem_cons_succ] at p0 p1
            cases hrt : rightT t with
            | false =>
              go_wp2_with fail
              refine (rightR1 hrt (T_6.out.at Seq.way)).mono ?_
              rintro e y7 ⟨rfl, hy7⟩
              have D7 := Lib.hid (below_step hy7 (Seq.way : Below y6.heap.size y6 _))
              have P_7 := Lib.hid (rowK P_6.out D7.out)
              have S_7 := Lib.hid (S_6.out.at D7.out)
              have C_7 := Lib.hid (C_6.out.at D7.out)
              have T_7 := Lib.hid (T_6.out.at D7.out)
              have B7 := Lib.hid (below_step D7.out B6.out)
              clear P_6
              clear S_6
              clear C_6
              clear T_6
              clear hy7 D7
              go_wp2_with fail
              go_ret
              exact ⟨rfl, below_step B7.out HBW.out⟩
            | true =>
              go_wp2_with fail
              refine (rightR1 hrt (T_6.out.at Seq.way)).mono ?_
              rintro e y7 ⟨rfl, hy7⟩
              have D7 := Lib.hid (below_step hy7 (Seq.way : Below y6.heap.size y6 _))
              have P_7 := Lib.hid (rowK P_6.out D7.out)
              have S_7 := Lib.hid (S_6.out.at D7.out)
              have C_7 := Lib.hid (C_6.out.at D7.out)
              have T_7 := Lib.hid (T_6.out.at D7.out)
              have B7 := Lib.hid (below_step D7.out B6.out)
              clear P_6
              clear S_6
              clear C_6
              clear T_6
              clear hy7 D7
              clear p0 p1 pl
              have hG := good_of hf hr
              have hGl := hG.len
              have hGa := Lib.hid (good_ans hG)
              have HGo := Lib.hid hG
              have hcp : 0 < c.length := (of_decide_eq_true hrc : RightT c).pos
              have hcn : c.length ≤ 1000000 := by have := (of_decide_eq_true hrc : RightT c).1; omega
              obtain ⟨O, z, hO⟩ : ∃ O z, openT s c = (O, z) := ⟨_, _, rfl⟩
              obtain ⟨A, b, hA⟩ : ∃ A b, answerT s n t = (A, b) := ⟨_, _, rfl⟩
              have hA2 : newA s n t = b := by rw [← answer_new, hA]
              obtain ⟨X, hX⟩ : ∃ X, sortTs s = X := ⟨_, rfl⟩
              obtain ⟨Y, hY⟩ : ∃ Y, placesS s = Y := ⟨_, rfl⟩
              obtain ⟨f, hF⟩ : ∃ f, findTb s c = f := ⟨_, rfl⟩
              obtain ⟨m, hM⟩ : ∃ m, totalT s = m := ⟨_, rfl⟩
              have HO := Lib.hid hO
              have HA := Lib.hid hA
              have HA2 := Lib.hid hA2
              have HX := Lib.hid hX
              have HY := Lib.hid hY
              have HF := Lib.hid hF
              have HM := Lib.hid hM
              clear hO hA hA2 hX hY hF hM hG hcl htl hf hr hrc hrt
              go_wp2_with fail
              refine (open14 HO.out (S_7.out.at Seq.way) (C_7.out.at Seq.way) hcp hcn (by omega)).mono ?_
              rintro e y8 ⟨oa, oc, rfl, hy8, hs8⟩
              have D8 := Lib.hid (below_step hy8 (Seq.way : Below y7.heap.size y7 _))
              have P_8 := Lib.hid (rowK P_7.out D8.out)
              have S_8 := Lib.hid (S_7.out.at D8.out)
              have C_8 := Lib.hid (C_7.out.at D8.out)
              have T_8 := Lib.hid (T_7.out.at D8.out)
              have B8 := Lib.hid (below_step D8.out B7.out)
              clear P_7
              clear S_7
              clear C_7
              clear T_7
              have O_8 := Lib.hid (hs8)
              clear hy8 D8
              clear hs8
              go_wp2_with fail
              refine (openR14 HO.out (S_8.out.at Seq.way) (C_8.out.at Seq.way) hcp hcn (by omega)).mono ?_
              rintro e y9 ⟨qa, qc, rfl, hy9, hs9⟩
              have D9 := Lib.hid (below_step hy9 (Seq.way : Below y8.heap.size y8 _))
              have P_9 := Lib.hid (rowK P_8.out D9.out)
              have S_9 := Lib.hid (S_8.out.at D9.out)
              have C_9 := Lib.hid (C_8.out.at D9.out)
              have T_9 := Lib.hid (T_8.out.at D9.out)
              have O_9 := Lib.hid (O_8.out.at D9.out)
              have B9 := Lib.hid (below_step D9.out B8.out)
              clear P_8
              clear S_8
              clear C_8
              clear T_8
              clear O_8
              have Q_9 := Lib.hid (hs9)
              clear hy9 D9
              clear hs9
              have p0 := P_9.out.cell (j := 0) (by simp)
              have p1 := P_9.out.cell (j := 1) (by simp)
              have pl := P_9.out.lt
              simp only [List.getElem_cons_zero, List.getElem_cons_succ] at p0 p1
              go_wp2_with fail
              refine (answer14 HA.out HA2.out (S_9.out.at Seq.way) (T_9.out.at Seq.way) (by omega) hGa.out).mono ?_
              rintro e y10 ⟨xa, xc, rfl, hy10, hs10⟩
              have D10 := Lib.hid (below_step hy10 (Seq.way : Below y9.heap.size y9 _))
              have P_10 := Lib.hid (rowK P_9.out D10.out)
              have S_10 := Lib.hid (S_9.out.at D10.out)
              have C_10 := Lib.hid (C_9.out.at D10.out)
              have T_10 := Lib.hid (T_9.out.at D10.out)
              have O_10 := Lib.hid (O_9.out.at D10.out)
              have Q_10 := Lib.hid (Q_9.out.at D10.out)
              have B10 := Lib.hid (below_step D10.out B9.out)
              clear P_9
              clear S_9
              clear C_9
              clear T_9
              clear O_9
              clear Q_9
              have A_10 := Lib.hid (hs10)
              clear hy10 D10
              clear hs10 p0 p1 pl
              have p0 := P_10.out.cell (j := 0) (by simp)
              have p1 := P_10.out.cell (j := 1) (by simp)
              have pl := P_10.out.lt
              simp only [List.getElem_cons_zero, List.getElem_cons_succ] at p0 p1
              go_wp2_with fail
              refine (answerR14 HA.out HA2.out (S_10.out.at Seq.way) (T_10.out.at Seq.way) (by omega) hGa.out).mono ?_
              rintro e y11 ⟨za, zc, rfl, hy11, hs11⟩
              have D11 := Lib.hid (below_step hy11 (Seq.way : Below y10.heap.size y10 _))
              have P_11 := Lib.hid (rowK P_10.out D11.out)
              have S_11 := Lib.hid (S_10.out.at D11.out)
              have C_11 := Lib.hid (C_10.out.at D11.out)
              have T_11 := Lib.hid (T_10.out.at D11.out)
              have O_11 := Lib.hid (O_10.out.at D11.out)
              have Q_11 := Lib.hid (Q_10.out.at D11.out)
              have A_11 := Lib.hid (A_10.out.at D11.out)
              have B11 := Lib.hid (below_step D11.out B10.out)
              clear P_10
              clear S_10
              clear C_10
              clear T_10
              clear O_10
              clear Q_10
              clear A_10
              have Z_11 := Lib.hid (hs11)
              clear hy11 D11
              clear hs11 p0 p1 pl
              go_wp2_with fail
              refine (sort14 HX.out HY.out (S_11.out.at Seq.way) HGo.out).mono ?_
              rintro e y12 ⟨sa, sc, pa, pc, rfl, hy12, hs12, ht12⟩
              have D12 := Lib.hid (below_step hy12 (Seq.way : Below y11.heap.size y11 _))
              have P_12 := Lib.hid (rowK P_11.out D12.out)
              have S_12 := Lib.hid (S_11.out.at D12.out)
              have C_12 := Lib.hid (C_11.out.at D12.out)
              have T_12 := Lib.hid (T_11.out.at D12.out)
              have O_12 := Lib.hid (O_11.out.at D12.out)
              have Q_12 := Lib.hid (Q_11.out.at D12.out)
              have A_12 := Lib.hid (A_11.out.at D12.out)
              have Z_12 := Lib.hid (Z_11.out.at D12.out)
              have B12 := Lib.hid (below_step D12.out B11.out)
              clear P_11
              clear S_11
              clear C_11
              clear T_11
              clear O_11
              clear Q_11
              clear A_11
              clear Z_11
              have X_12 := Lib.hid (hs12)
              have Y_12 := Lib.hid (ht12)
              clear hy12 D12
              clear hs12 ht12
              go_wp2_with fail
              refine (sortR14 HX.out HY.out (S_12.out.at Seq.way) HGo.out).mono ?_
              rintro e y13 ⟨ua, uc, va, vc, rfl, hy13, hs13, ht13⟩
              have D13 := Lib.hid (below_step hy13 (Seq.way : Below y12.heap.size y12 _))
              have P_13 := Lib.hid (rowK P_12.out D13.out)
              have S_13 := Lib.hid (S_12.out.at D13.out)
              have C_13 := Lib.hid (C_12.out.at D13.out)
              have T_13 := Lib.hid (T_12.out.at D13.out)
              have O_13 := Lib.hid (O_12.out.at D13.out)
              have Q_13 := Lib.hid (Q_12.out.at D13.out)
              have A_13 := Lib.hid (A_12.out.at D13.out)
              have Z_13 := Lib.hid (Z_12.out.at D13.out)
              have X_13 := Lib.hid (X_12.out.at D13.out)
              have Y_13 := Lib.hid (Y_12.out.at D13.out)
              have B13 := Lib.hid (below_step D13.out B12.out)
              clear P_12
              clear S_12
              clear C_12
              clear T_12
              clear O_12
              clear Q_12
              clear A_12
              clear Z_12
              clear X_12
              clear Y_12
              have U_13 := Lib.hid (hs13)
              have V_13 := Lib.hid (ht13)
              clear hy13 D13
              clear hs13 ht13
              go_wp2_with fail
              refine (find14 HF.out (S_13.out.at Seq.way) (C_13.out.at Seq.way) hcp hcn).mono ?_
              rintro e y14 ⟨rfl, hy14⟩
              have D14 := Lib.hid (below_step hy14 (Seq.way : Below y13.heap.size y13 _))
              have P_14 := Lib.hid (rowK P_13.out D14.out)
              have S_14 := Lib.hid (S_13.out.at D14.out)
              have C_14 := Lib.hid (C_13.out.at D14.out)
              have T_14 := Lib.hid (T_13.out.at D14.out)
              have O_14 := Lib.hid (O_13.out.at D14.out)
              have Q_14 := Lib.hid (Q_13.out.at D14.out)
              have A_14 := Lib.hid (A_13.out.at D14.out)
              have Z_14 := Lib.hid (Z_13.out.at D14.out)
              have X_14 := Lib.hid (X_13.out.at D14.out)
              have Y_14 := Lib.hid (Y_13.out.at D14.out)
              have U_14 := Lib.hid (U_13.out.at D14.out)
              have V_14 := Lib.hid (V_13.out.at D14.out)
              have B14 := Lib.hid (below_step D14.out B13.out)
              clear P_13
              clear S_13
              clear C_13
              clear T_13
              clear O_13
              clear Q_13
              clear A_13
              clear Z_13
              clear X_13
              clear Y_13
              clear U_13
              clear V_13
              clear hy14 D14
              go_wp2_with fail
              refine (findR14 HF.out (S_14.out.at Seq.way) (C_14.out.at Seq.way) hcp hcn).mono ?_
              rintro e y15 ⟨rfl, hy15⟩
              have D15 := Lib.hid (below_step hy15 (Seq.way : Below y14.heap.size y14 _))
              have P_15 := Lib.hid (rowK P_14.out D15.out)
              have S_15 := Lib.hid (S_14.out.at D15.out)
              have C_15 := Lib.hid (C_14.out.at D15.out)
              have T_15 := Lib.hid (T_14.out.at D15.out)
              have O_15 := Lib.hid (O_14.out.at D15.out)
              have Q_15 := Lib.hid (Q_14.out.at D15.out)
              have A_15 := Lib.hid (A_14.out.at D15.out)
              have Z_15 := Lib.hid (Z_14.out.at D15.out)
              have X_15 := Lib.hid (X_14.out.at D15.out)
              have Y_15 := Lib.hid (Y_14.out.at D15.out)
              have U_15 := Lib.hid (U_14.out.at D15.out)
              have V_15 := Lib.hid (V_14.out.at D15.out)
              have B15 := Lib.hid (below_step D15.out B14.out)
              clear P_14
              clear S_14
              clear C_14
              clear T_14
              clear O_14
              clear Q_14
              clear A_14
              clear Z_14
              clear X_14
              clear Y_14
              clear U_14
              clear V_14
              clear hy15 D15
              go_wp2_with fail
              refine (sameR14 (O_15.out.at Seq.way) (Q_15.out.at Seq.way)).mono ?_
              rintro e y16 ⟨rfl, hy16⟩
              have D16 := Lib.hid (below_step hy16 (Seq.way : Below y15.heap.size y15 _))
              have P_16 := Lib.hid (rowK P_15.out D16.out)
              have S_16 := Lib.hid (S_15.out.at D16.out)
              have C_16 := Lib.hid (C_15.out.at D16.out)
              have T_16 := Lib.hid (T_15.out.at D16.out)
              have O_16 := Lib.hid (O_15.out.at D16.out)
              have Q_16 := Lib.hid (Q_15.out.at D16.out)
              have A_16 := Lib.hid (A_15.out.at D16.out)
              have Z_16 := Lib.hid (Z_15.out.at D16.out)
              have X_16 := Lib.hid (X_15.out.at D16.out)
              have Y_16 := Lib.hid (Y_15.out.at D16.out)
              have U_16 := Lib.hid (U_15.out.at D16.out)
              have V_16 := Lib.hid (V_15.out.at D16.out)
              have B16 := Lib.hid (below_step D16.out B15.out)
              clear P_15
              clear S_15
              clear C_15
              clear T_15
              clear O_15
              clear Q_15
              clear A_15
              clear Z_15
              clear X_15
              clear Y_15
              clear U_15
              clear V_15
              clear hy16 D16
              go_wp2_with fail
              refine (sameR14 (A_16.out.at Seq.way) (Z_16.out.at Seq.way)).mono ?_
              rintro e y17 ⟨rfl, hy17⟩
              have D17 := Lib.hid (below_step hy17 (Seq.way : Below y16.heap.size y16 _))
              have P_17 := Lib.hid (rowK P_16.out D17.out)
              have S_17 := Lib.hid (S_16.out.at D17.out)
              have C_17 := Lib.hid (C_16.out.at D17.out)
              have T_17 := Lib.hid (T_16.out.at D17.out)
              have O_17 := Lib.hid (O_16.out.at D17.out)
              have Q_17 := Lib.hid (Q_16.out.at D17.out)
              have A_17 := Lib.hid (A_16.out.at D17.out)
              have Z_17 := Lib.hid (Z_16.out.at D17.out)
              have X_17 := Lib.hid (X_16.out.at D17.out)
              have Y_17 := Lib.hid (Y_16.out.at D17.out)
              have U_17 := Lib.hid (U_16.out.at D17.out)
              have V_17 := Lib.hid (V_16.out.at D17.out)
              have B17 := Lib.hid (below_step D17.out B16.out)
              clear P_16
              clear S_16
              clear C_16
              clear T_16
              clear O_16
              clear Q_16
              clear A_16
              clear Z_16
              clear X_16
              clear Y_16
              clear U_16
              clear V_16
              clear hy17 D17
              go_wp2_with fail
              refine (sameR14 (X_17.out.at Seq.way) (U_17.out.at Seq.way)).mono ?_
              rintro e y18 ⟨rfl, hy18⟩
              have D18 := Lib.hid (below_step hy18 (Seq.way : Below y17.heap.size y17 _))
              have P_18 := Lib.hid (rowK P_17.out D18.out)
              have S_18 := Lib.hid (S_17.out.at D18.out)
              have C_18 := Lib.hid (C_17.out.at D18.out)
              have T_18 := Lib.hid (T_17.out.at D18.out)
              have O_18 := Lib.hid (O_17.out.at D18.out)
              have Q_18 := Lib.hid (Q_17.out.at D18.out)
              have A_18 := Lib.hid (A_17.out.at D18.out)
              have Z_18 := Lib.hid (Z_17.out.at D18.out)
              have X_18 := Lib.hid (X_17.out.at D18.out)
              have Y_18 := Lib.hid (Y_17.out.at D18.out)
              have U_18 := Lib.hid (U_17.out.at D18.out)
              have V_18 := Lib.hid (V_17.out.at D18.out)
              have B18 := Lib.hid (below_step D18.out B17.out)
              clear P_17
              clear S_17
              clear C_17
              clear T_17
              clear O_17
              clear Q_17
              clear A_17
              clear Z_17
              clear X_17
              clear Y_17
              clear U_17
              clear V_17
              clear hy18 D18
              go_wp2_with fail
              refine (ints14 (Y_18.out.at Seq.way) (V_18.out.at Seq.way)).mono ?_
              rintro e y19 ⟨rfl, hy19⟩
              have D19 := Lib.hid (below_step hy19 (Seq.way : Below y18.heap.size y18 _))
              have P_19 := Lib.hid (rowK P_18.out D19.out)
              have S_19 := Lib.hid (S_18.out.at D19.out)
              have C_19 := Lib.hid (C_18.out.at D19.out)
              have T_19 := Lib.hid (T_18.out.at D19.out)
              have O_19 := Lib.hid (O_18.out.at D19.out)
              have Q_19 := Lib.hid (Q_18.out.at D19.out)
              have A_19 := Lib.hid (A_18.out.at D19.out)
              have Z_19 := Lib.hid (Z_18.out.at D19.out)
              have X_19 := Lib.hid (X_18.out.at D19.out)
              have Y_19 := Lib.hid (Y_18.out.at D19.out)
              have U_19 := Lib.hid (U_18.out.at D19.out)
              have V_19 := Lib.hid (V_18.out.at D19.out)
              have B19 := Lib.hid (below_step D19.out B18.out)
              clear P_18
              clear S_18
              clear C_18
              clear T_18
              clear O_18
              clear Q_18
              clear A_18
              clear Z_18
              clear X_18
              clear Y_18
              clear U_18
              clear V_18
              clear hy19 D19
              go_wp2_with fail
              refine (totalP14 HM.out (S_19.out.at Seq.way) (by omega) hGa.out).mono ?_
              rintro e y20 ⟨rfl, hy20⟩
              have D20 := Lib.hid (below_step hy20 (Seq.way : Below y19.heap.size y19 _))
              have P_20 := Lib.hid (rowK P_19.out D20.out)
              have S_20 := Lib.hid (S_19.out.at D20.out)
              have C_20 := Lib.hid (C_19.out.at D20.out)
              have T_20 := Lib.hid (T_19.out.at D20.out)
              have O_20 := Lib.hid (O_19.out.at D20.out)
              have Q_20 := Lib.hid (Q_19.out.at D20.out)
              have A_20 := Lib.hid (A_19.out.at D20.out)
              have Z_20 := Lib.hid (Z_19.out.at D20.out)
              have X_20 := Lib.hid (X_19.out.at D20.out)
              have Y_20 := Lib.hid (Y_19.out.at D20.out)
              have U_20 := Lib.hid (U_19.out.at D20.out)
              have V_20 := Lib.hid (V_19.out.at D20.out)
              have B20 := Lib.hid (below_step D20.out B19.out)
              clear P_19
              clear S_19
              clear C_19
              clear T_19
              clear O_19
              clear Q_19
              clear A_19
              clear Z_19
              clear X_19
              clear Y_19
              clear U_19
              clear V_19
              clear hy20 D20
              go_wp2_with fail
              refine (totalR14 HM.out (S_20.out.at Seq.way) (by omega) hGa.out).mono ?_
              rintro e y21 ⟨rfl, hy21⟩
              have D21 := Lib.hid (below_step hy21 (Seq.way : Below y20.heap.size y20 _))
              have P_21 := Lib.hid (rowK P_20.out D21.out)
              have S_21 := Lib.hid (S_20.out.at D21.out)
              have C_21 := Lib.hid (C_20.out.at D21.out)
              have T_21 := Lib.hid (T_20.out.at D21.out)
              have O_21 := Lib.hid (O_20.out.at D21.out)
              have Q_21 := Lib.hid (Q_20.out.at D21.out)
              have A_21 := Lib.hid (A_20.out.at D21.out)
              have Z_21 := Lib.hid (Z_20.out.at D21.out)
              have X_21 := Lib.hid (X_20.out.at D21.out)
              have Y_21 := Lib.hid (Y_20.out.at D21.out)
              have U_21 := Lib.hid (U_20.out.at D21.out)
              have V_21 := Lib.hid (V_20.out.at D21.out)
              have B21 := Lib.hid (below_step D21.out B20.out)
              clear P_20
              clear S_20
              clear C_20
              clear T_20
              clear O_20
              clear Q_20
              clear A_20
              clear Z_20
              clear X_20
              clear Y_20
              clear U_20
              clear V_20
              clear hy21 D21
              go_wp2_with fail
              go_ret
              exact ⟨rfl, below_step B21.out HBW.out⟩
end Go.Proofs.YtckkjjiaecnciaaGreat
