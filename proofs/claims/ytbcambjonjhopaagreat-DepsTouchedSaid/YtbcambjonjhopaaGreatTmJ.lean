/-
  R12: Add.
-/
import Derived.Test.YtbcambjonjhopaaGreatTmI
namespace Go.Proofs.YtbcambjonjhopaaGreat
open Go Go.RowKit

def insT (t : List Cell) : List (List Cell) → List (List Cell)
  | [] => [t]
  | a :: l => if cmpR t a < 0 then t :: a :: l else a :: insT t l
def insStep (t : List Cell) (st : List (List Cell) × Bool) (a : List Cell) : List (List Cell) × Bool := if st.2 = false ∧ cmpR t a < 0 then (st.1 ++ [t] ++ [a], true) else (st.1 ++ [a], st.2)
def insTo (t : List Cell) (l : List (List Cell)) : List (List Cell) × Bool := l.foldl (insStep t) ([], false)
theorem insTo_snoc {t : List Cell} {l : List (List Cell)} {k : Nat} (hk : k < l.length) : insTo t (l.take (k + 1)) = insStep t (insTo t (l.take k)) l[k] := by
  unfold insTo
  rw [List.take_succ_eq_append_getElem hk, List.foldl_append]; rfl
theorem foldl_insStep (t : List Cell) : ∀ (l : List (List Cell)) (o : List (List Cell)), (l.foldl (insStep t) (o, true)) = (o ++ l, true)
  | [], o => by simp
  | a :: l, o => by
    rw [List.foldl_cons]
    show l.foldl (insStep t) (if _ then _ else (o ++ [a], true)) = _
    rw [if_neg (by simp), foldl_insStep t l]
    simp
theorem insT_eq (t : List Cell) (l : List (List Cell)) : insT t l = if (insTo t l).2 = true then (insTo t l).1 else (insTo t l).1 ++ [t] := by
  have key : ∀ (l o : List (List Cell)), o ++ insT t l = if (l.foldl (insStep t) (o, false)).2 = true then (l.foldl (insStep t) (o, false)).1 else (l.foldl (insStep t) (o, false)).1 ++ [t] := by
    intro l
    induction l with
    | nil => intro o; simp [insT]
    | cons a l ih =>
      intro o
      rw [List.foldl_cons]
      unfold insT
      by_cases h : cmpR t a < 0
      · have e : insStep t (o, false) a = (o ++ [t] ++ [a], true) := by unfold insStep; rw [if_pos ⟨rfl, h⟩]
        rw [if_pos h, e, foldl_insStep]
        simp
      · have e : insStep t (o, false) a = (o ++ [a], false) := by unfold insStep; rw [if_neg (fun h' => h h'.2)]
        rw [if_neg h, e, ← ih]
        simp
  have := key l []
  rw [List.nil_append] at this
  exact this
theorem insStep_len (t : List Cell) (st : List (List Cell) × Bool) (a : List Cell) (n : Nat) (h : st.1.length ≤ n + (if st.2 = true then 1 else 0)) : (insStep t st a).1.length ≤ n + 1 + (if (insStep t st a).2 = true then 1 else 0) := by
  unfold insStep
  split
  · rename_i hc
    rw [if_neg (by rw [hc.1]; simp)] at h
    simp; omega
  · simp; omega
theorem insTo_len (t : List Cell) (l : List (List Cell)) : (insTo t l).1.length ≤ l.length + 1 := by
  have key : ∀ (l : List (List Cell)) (st : List (List Cell) × Bool) (n : Nat), st.1.length ≤ n + (if st.2 = true then 1 else 0) → (l.foldl (insStep t) st).1.length ≤ n + l.length + 1 := by
    intro l
    induction l with
    | nil => intro st n h; simp only [List.foldl_nil, List.length_nil]; split at h <;> omega
    | cons a l ih =>
      intro st n h
      rw [List.foldl_cons]
      have := ih _ _ (insStep_len t st a n h)
      simp only [List.length_cons]
      omega
  have := key l ([], false) 0 (by simp)
  simpa [insTo] using this

def addE (l : List (List Cell)) (t : List Cell) : Int := if factT t = true then (if t ∈ l then 0 else if 512 ≤ l.length then 2 else 0) else 120
def addO (l : List (List Cell)) (t : List Cell) : List (List Cell) := if factT t = true then (if t ∈ l then l else if 512 ≤ l.length then [] else insT t l) else []

set_option maxHeartbeats 1600000 in
set_option maxRecDepth 100000 in
theorem AddR_spec {S T : Nat → Prop} {w : World} {v u : Value} {l : List (List Cell)} {t : List Cell} (hl : Seq (seqE cellE) S w v l) (ht : Seq cellE T w u t) :
    Calls Tryz.prog 28 #[v, u] w (RetE (fun o w' => Seq (seqE cellE) (Fr (fun b => S b ∨ T b) w) w' o (addO l t)) (addE l t) w) := by
  have Ht := Lib.hid ht
  have HtB := Lib.hid ht.bnd
  have Hl := Lib.hid hl
  have HlB := Lib.hid hl.bnd
  obtain ⟨aa, ac, rfl, -⟩ := hl
  obtain ⟨ta, tc, rfl, -⟩ := ht
  obtain ⟨_, _, ee, -, -, hal, -, h5⟩ := HlB.out
  simp only [Value.slice.injEq, true_and] at ee
  obtain ⟨rfl, rfl⟩ := ee
  go_enter Tryz.func28, Tryz.ntmps28
  go_wp2_with fail
  refine (FactR_spec Ht.out).mono ?_
  rintro e w1 ⟨rfl, hb1⟩
  cases hf : factT t
  · have he := Lib.hid (show addE l t = 120 by unfold addE; rw [hf]; rfl)
    have ho := Lib.hid (show addO l t = [] by unfold addO; rw [hf]; rfl)
    go_wp2_with fail
    refine bodyPost_ret (v := .tuple #[.slice none 0 0, .int .i64 120]) (by simp [results, Tryz.results28, go_sem]) rfl ?_
    exact ⟨_, by rw [he.out], hb1, by rw [ho.out]; exact Seq.nil _ _ _⟩
  · go_wp2_with fail
    refine (HasR_spec (Hl.out.at hb1) (Ht.out.at hb1)).mono ?_
    rintro e w2 ⟨rfl, hq2⟩
    have hb2 := below_step (hq2.below _) hb1
    have hz2 := hb2.size
    by_cases hh : t ∈ l
    · rw [decide_eq_true hh]
      have he := Lib.hid (show addE l t = 0 by unfold addE; rw [if_pos hf, if_pos hh])
      have ho := Lib.hid (show addO l t = l by unfold addO; rw [if_pos hf, if_pos hh])
      go_wp2_with fail
      refine bodyPost_ret (v := .tuple #[.slice aa l.length ac, .int .i64 0]) (by simp [results, Tryz.results28, go_sem]) rfl ?_
      exact ⟨_, by rw [he.out], hb2, by rw [ho.out]; exact (Hl.out.at hb2).mono (fun _ h _ => .inl (.inl h)) fun _ _ _ => rfl⟩
    · rw [decide_eq_false hh]
      by_cases h512 : 512 ≤ l.length
      · have he := Lib.hid (show addE l t = 2 by unfold addE; rw [if_pos hf, if_neg hh, if_pos h512])
        have ho := Lib.hid (show addO l t = [] by unfold addO; rw [if_pos hf, if_neg hh, if_pos h512])
        go_wp2_with fail
        refine bodyPost_ret (v := .tuple #[.slice none 0 0, .int .i64 2]) (by simp [results, Tryz.results28, go_sem]) rfl ?_
        exact ⟨_, by rw [he.out], hb2, by rw [ho.out]; exact Seq.nil _ _ _⟩
      · have he := Lib.hid (show addE l t = 0 by unfold addE; rw [if_pos hf, if_neg hh, if_neg h512])
        have ho := Lib.hid (show addO l t = if (insTo t l).2 = true then (insTo t l).1 else (insTo t l).1 ++ [t] by unfold addO; rw [if_pos hf, if_neg hh, if_neg h512, insT_eq])
        have hl512 : (l.length : Int) < 512 := by omega
        clear h512 hh hf
        go_wp2_with fail
        go_loopw [6, 7, 8] (fun o b i wr => ∃ k : Nat, k ≤ l.length ∧ i = .int .i64 k ∧ b = .bool (insTo t (l.take k)).2 ∧ Own (seqE cellE) (fun b => (S b ∨ T b) ∧ b < w.heap.size) w.heap.size 40 wr o (insTo t (l.take k)).1 ∧ Below w.heap.size w wr) (fun _ _ i _ => l.length - (intOf i).toNat)
        case atStart => exact ⟨0, Nat.zero_le _, rfl, rfl, Own.lit0 rfl hz2 rfl, hb2.trans (Below.mono (Seq.way : Below w2.heap.size w2 _) hz2)⟩
        case round =>
          obtain ⟨k, hk, rfl, rfl, hown, hbr⟩ := hrel
          have hzr := hbr.size
          have hln := insTo_len t (l.take k)
          rw [List.length_take] at hln
          by_cases hlt : k < l.length
          · obtain ⟨b1, o1, p1, n1, rfl, ⟨-, hbw⟩, l1, c0, hX⟩ := (h5.below hbr fun _ h _ => h.2).seq hlt
            have hst := Lib.hid (insTo_snoc (t := t) hlt)
            have HX := Lib.hid hX
            have Hown := Lib.hid hown
            obtain ⟨x, hx⟩ : ∃ x, x = l[k] := ⟨_, rfl⟩
            rw [← hx] at c0 HX hst
            obtain ⟨st, hste⟩ : ∃ st, st = insTo t (l.take k) := ⟨_, rfl⟩
            rw [← hste] at hst Hown hln ⊢
            clear hx h5 hX hown hste
            have hkl : (k : Int) < (l.length : Int) := by omega
            have hk0 : (0 : Int) ≤ (k : Int) := by omega
            have hln2 : st.1.length ≤ 1000000000 := by omega
            obtain ⟨o, b⟩ := st
            simp only at Hown hln2 ⊢
            cases b
            · go_wp2_with fail
              refine (CompareR_spec (Ht.out.at hbr) HX.out).mono ?_
              rintro e w3 ⟨rfl, hb3⟩
              have hbr1 := below_step hb3 hbr
              have e0 : w3.cell? ⟨b1, o1 + k, none⟩ = _ := (hb3.cell (p := ⟨b1, o1 + k, none⟩) l1).trans c0
              have l1' : b1 < w3.heap.size := Nat.lt_of_lt_of_le l1 hb3.size
              have Hown1 := Lib.hid (Hown.out.move hb3)
              clear c0
              by_cases hc : cmpR t x < 0
              · have hs := Lib.hid (show insTo t (l.take (k + 1)) = (o ++ [t] ++ [x], true) by rw [hst.out]; unfold insStep; rw [if_pos ⟨rfl, hc⟩])
                clear hst
                go_wp2_with (at_builtin; refine wpList_app_seq (E := cellE) (S := fun b => (S b ∨ T b) ∧ b < w.heap.size) (Sy := fun b => T b ∧ b < w.heap.size) (base := w.heap.size) (wm := w3) (vy := .slice ta t.length tc) (y := t) rfl (.tmp 37) (.tmp 39) 27 rfl Tryz.underlying27 infoSeq rfl Hown1.out rfl Seq.way ((HtB.out.at hbr1).at Seq.way) (fun b h _ => ⟨⟨.inr h.1, h.2⟩, .inl h.2⟩) (by go_simp) (by omega) hbr1.size ?_)
                intro ao2 cap2 w4 hown2 hk2
                have hb4 : Below w.heap.size w3 w4 := Below.trans (Below.mono (Seq.way : Below w3.heap.size w3 _) hbr1.size) hk2.below
                have H2 := Lib.hid hown2
                have K2 := Lib.hid (hbr1.trans hb4)
                have e1 : w4.cell? ⟨b1, o1 + k, none⟩ = some (.slice p1 x.length n1) := (hb4.cell (p := ⟨b1, o1 + k, none⟩) hbw).trans e0
                have l1'' : b1 < w4.heap.size := Nat.lt_of_lt_of_le l1' hb4.size
                have HX4 := Lib.hid ((HX.out.at hb3).mono (w' := w4) (T := fun b => S b ∧ b < w.heap.size) (fun _ h _ => h) fun b h _ => hb4.block b h.2)
                have hz4 := K2.out.size
                clear hown2 hk2 e0 hb4
                go_wp2_with (at_builtin; refine wpList_app_seq (E := cellE) (S := fun b => (S b ∨ T b) ∧ b < w.heap.size) (Sy := fun b => S b ∧ b < w.heap.size) (base := w.heap.size) (wm := w4) (vy := .slice p1 x.length n1) (y := x) rfl (.tmp 41) (.tmp 46) 27 rfl Tryz.underlying27 infoSeq rfl H2.out rfl Seq.way (HX4.out.at Seq.way) (fun b h _ => ⟨⟨.inl h.1, h.2⟩, .inl h.2⟩) (by go_simp) (by (try simp only [List.length_append, List.length_cons, List.length_nil]); omega) hz4 ?_)
                intro ao3 cap3 w5 hown3 hk3
                have H3 := Lib.hid hown3
                have K3 := Lib.hid (K2.out.trans (Below.trans (Below.mono (Seq.way : Below w4.heap.size w4 _) hz4) hk3.below))
                clear hown3 hk3
                go_wp2_with fail
                go_roundw
                case rel => exact ⟨k + 1, hlt, by go_num, by rw [hs.out], by rw [hs.out]; simpa using H3.out, K3.out⟩
                case measure => simp [intOf]; omega
              · have hs := Lib.hid (show insTo t (l.take (k + 1)) = (o ++ [x], false) by rw [hst.out]; unfold insStep; rw [if_neg (fun h => hc h.2)])
                clear hst
                go_wp2_with (at_builtin; refine wpList_app_seq (E := cellE) (S := fun b => (S b ∨ T b) ∧ b < w.heap.size) (Sy := fun b => S b ∧ b < w.heap.size) (base := w.heap.size) (wm := w3) (vy := .slice p1 x.length n1) (y := x) rfl (.tmp 41) (.tmp 46) 27 rfl Tryz.underlying27 infoSeq rfl Hown1.out rfl Seq.way ((HX.out.at hb3).at Seq.way) (fun b h _ => ⟨⟨.inl h.1, h.2⟩, .inl h.2⟩) (by go_simp) (by (try simp only [List.length_append, List.length_cons, List.length_nil]); omega) hbr1.size ?_)
                intro ao3 cap3 w5 hown3 hk3
                have H3 := Lib.hid hown3
                have K3 := Lib.hid (hbr1.trans (Below.trans (Below.mono (Seq.way : Below w3.heap.size w3 _) hbr1.size) hk3.below))
                clear hown3 hk3
                go_wp2_with fail
                go_roundw
                case rel => exact ⟨k + 1, hlt, by go_num, by rw [hs.out], by rw [hs.out]; simpa using H3.out, K3.out⟩
                case measure => simp [intOf]; omega
            · have hs := Lib.hid (show insTo t (l.take (k + 1)) = (o ++ [x], true) by rw [hst.out]; unfold insStep; rw [if_neg (fun h => by simp at h)])
              clear hst
              go_wp2_with (at_builtin; refine wpList_app_seq (E := cellE) (S := fun b => (S b ∨ T b) ∧ b < w.heap.size) (Sy := fun b => S b ∧ b < w.heap.size) (base := w.heap.size) (wm := wr) (vy := .slice p1 x.length n1) (y := x) rfl (.tmp 41) (.tmp 46) 27 rfl Tryz.underlying27 infoSeq rfl Hown.out rfl Seq.way (HX.out.at Seq.way) (fun b h _ => ⟨⟨.inl h.1, h.2⟩, .inl h.2⟩) (by go_simp) (by (try simp only [List.length_append, List.length_cons, List.length_nil]); omega) hbr.size ?_)
              intro ao3 cap3 w5 hown3 hk3
              have H3 := Lib.hid hown3
              have K3 := Lib.hid (hbr.trans (Below.trans (Below.mono (Seq.way : Below wr.heap.size wr _) hbr.size) hk3.below))
              clear hown3 hk3
              go_wp2_with fail
              go_roundw
              case rel => exact ⟨k + 1, hlt, by go_num, by rw [hs.out], by rw [hs.out]; simpa using H3.out, K3.out⟩
              case measure => simp [intOf]; omega
          · obtain rfl : k = l.length := by omega
            rw [List.take_length] at hown hln ⊢
            have Hown := Lib.hid hown
            obtain ⟨st, hste⟩ : ∃ st, st = insTo t l := ⟨_, rfl⟩
            rw [← hste] at ho Hown hln ⊢
            clear hste hown
            obtain ⟨o, b⟩ := st
            simp only at Hown hln ho ⊢
            obtain ⟨oa, oc, rfl, -, -⟩ := Hown.out.shape
            cases b
            · have ho' := Lib.hid (show addO l t = o ++ [t] by rw [ho.out]; simp)
              clear ho
              go_wp2_with (at_builtin; refine wpList_app_seq (E := cellE) (S := fun b => (S b ∨ T b) ∧ b < w.heap.size) (Sy := fun b => T b ∧ b < w.heap.size) (base := w.heap.size) (wm := wr) (vy := .slice ta t.length tc) (y := t) rfl (.tmp 50) (.tmp 52) 27 rfl Tryz.underlying27 infoSeq rfl Hown.out rfl Seq.way ((HtB.out.at hbr).at Seq.way) (fun b h _ => ⟨⟨.inr h.1, h.2⟩, .inl h.2⟩) (by go_simp) (by omega) hbr.size ?_)
              intro ao3 cap3 w5 hown3 hk3
              have H3 := Lib.hid hown3
              have K3 := Lib.hid (hbr.trans (Below.trans (Below.mono (Seq.way : Below wr.heap.size wr _) hbr.size) hk3.below))
              clear hown3 hk3
              go_wp2_with fail
              refine bodyPost_ret (v := .tuple #[.slice ao3 (o.length + 1) cap3, .int .i64 0]) (by simp [results, Tryz.results28, go_sem]) rfl ?_
              exact ⟨_, by rw [he.out], K3.out, by rw [ho'.out]; exact H3.out.seq (by simp; omega) fun b _ hb => hb.imp (·.1) id⟩
            · have ho' := Lib.hid (show addO l t = o by rw [ho.out]; simp)
              clear ho
              go_wp2_with fail
              refine bodyPost_ret (v := .tuple #[.slice oa o.length oc, .int .i64 0]) (by simp [results, Tryz.results28, go_sem]) rfl ?_
              exact ⟨_, by rw [he.out], hbr, by rw [ho'.out]; exact Hown.out.seq (by omega) fun b _ hb => hb.imp (·.1) id⟩
end Go.Proofs.YtbcambjonjhopaaGreat
