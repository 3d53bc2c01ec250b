/-
  R12: Has, Drop, less, Diff, Made.
-/
import Derived.Test.YtceipnlpofebmaaGreatTmH
namespace Go.Proofs.YtceipnlpofebmaaGreat
open Go Go.RowKit

/-! ### Has -/
set_option maxHeartbeats 1600000 in
set_option maxRecDepth 100000 in
theorem HasR_spec {S T : Nat → Prop} {w : World} {v u : Value} {l : List (List Cell)} {t : List Cell} (hl : Seq (seqE cellE) S w v l) (ht : Seq cellE T w u t) :
    Calls Tryz.prog 25 #[v, u] w (QuietV (.bool (decide (t ∈ l))) w) := by
  have Ht := Lib.hid ht
  obtain ⟨aa, ac, rfl, -, -, hal, -, h5⟩ := hl
  obtain ⟨ta, tc, rfl, -⟩ := ht
  go_enter Tryz.func25, Tryz.ntmps25
  go_wp2_with fail
  go_loopw [5] (fun i wr => ∃ k : Nat, k ≤ l.length ∧ i = .int .i64 k ∧ Hid (¬ t ∈ l.take k) ∧ Drew w wr) (fun i _ => l.length - (intOf i).toNat)
  case atStart => exact ⟨0, Nat.zero_le _, rfl, Lib.hid (by simp), Drew.refl _⟩
  case round =>
    obtain ⟨k, hk, rfl, hno, hdr⟩ := hrel
    have hbr := hdr.below w.heap.size
    by_cases hlt : k < l.length
    · obtain ⟨b1, o1, p1, n1, rfl, -, -, c0, hX⟩ := (h5.below hbr fun _ _ h => h).seq hlt
      have hy := Lib.hid (show l[k] = t → decide (t ∈ l) = true from fun h => decide_eq_true (h ▸ List.getElem_mem hlt))
      have hz := Lib.hid (show l[k] ≠ t → ¬ t ∈ l.take (k + 1) from fun h => by
        rw [List.take_succ_eq_append_getElem hlt, List.mem_append]
        simp only [List.mem_singleton, not_or]
        exact ⟨hno.out, fun e => h e.symm⟩)
      have HX := Lib.hid hX
      obtain ⟨x, hx⟩ : ∃ x, x = l[k] := ⟨_, rfl⟩
      rw [← hx] at c0 HX hy hz
      clear hx h5 hX
      have hkl : (k : Int) < (l.length : Int) := by omega
      have hk0 : (0 : Int) ≤ (k : Int) := by omega
      go_wp2_with fail
      refine (SameT_spec HX.out (Ht.out.at hbr)).mono ?_
      rintro e w1 ⟨rfl, hq⟩
      have hq' := hdr.trans hq
      by_cases he : x = t
      · have hy' := Lib.hid (hy.out he)
        have hd : decide (x = t) = true := decide_eq_true he
        rw [hd]
        clear hy hz he hd
        go_wp2_with fail
        go_ret
        exact ⟨ret_bool hy'.out.symm, hq'⟩
      · have hz' := Lib.hid (hz.out he)
        have hd : decide (x = t) = false := decide_eq_false he
        rw [hd]
        clear hy hz he hd
        go_wp2_with fail
        go_roundw
        case rel => exact ⟨k + 1, hlt, by go_num, hz', hq'⟩
        case measure => simp [intOf]; omega
    · obtain rfl : k = l.length := by omega
      have hd := Lib.hid (show decide (t ∈ l) = false from decide_eq_false (by have := hno.out; rwa [List.take_length] at this))
      go_wp2_with fail
      go_ret
      exact ⟨ret_bool hd.out.symm, hdr⟩

/-! ### less, Diff -/
def lessT (a b : List (List Cell)) : List (List Cell) := fltL (fun t => !decide (t ∈ b)) a

set_option maxHeartbeats 1600000 in
set_option maxRecDepth 100000 in
theorem lessR_spec {S T : Nat → Prop} {w : World} {v u : Value} {a b : List (List Cell)} (ha : Seq (seqE cellE) S w v a) (hb : Seq (seqE cellE) T w u b) (hlen : a.length ≤ 1000000000) :
    Calls Tryz.prog 51 #[v, u] w (Ret (fun r w' => Seq (seqE cellE) (Fr S w) w' r (lessT a b)) w) := by
  have Hb := Lib.hid hb
  have Ha := Lib.hid ha.bnd
  obtain ⟨aa, ac, rfl, -⟩ := ha
  obtain ⟨ba, bc, rfl, -⟩ := hb
  obtain ⟨_, _, ee, -, -, hal, -, h5⟩ := Ha.out
  simp only [Value.slice.injEq, true_and] at ee
  obtain ⟨rfl, rfl⟩ := ee
  go_enter Tryz.func51, Tryz.ntmps51
  go_wp2_with fail
  go_loopw [5, 6] (fun o i wr => ∃ k : Nat, k ≤ a.length ∧ i = .int .i64 k ∧ Own (seqE cellE) (fun b => S b ∧ b < w.heap.size) w.heap.size 23 wr o (lessT (a.take k) b) ∧ Below w.heap.size w wr) (fun _ i _ => a.length - (intOf i).toNat)
  case atStart => exact ⟨0, Nat.zero_le _, rfl, Own.lit0 rfl (Nat.le_refl _) rfl, Seq.way⟩
  case round =>
    obtain ⟨k, hk, rfl, hown, hbr⟩ := hrel
    have hzr := hbr.size
    have hln := fltL_len (fun t => !decide (t ∈ b)) (a.take k)
    rw [List.length_take] at hln
    by_cases hlt : k < a.length
    · obtain ⟨b1, o1, p1, n1, rfl, -, l1, c0, hX⟩ := (h5.below hbr fun _ h _ => h.2).seq hlt
      have hy := Lib.hid (show a[k] ∈ b → lessT (a.take (k + 1)) b = lessT (a.take k) b from fun h => fltL_no hlt (by simp [h]))
      have hz := Lib.hid (show ¬ a[k] ∈ b → lessT (a.take (k + 1)) b = lessT (a.take k) b ++ [a[k]] from fun h => fltL_yes hlt (by simp [h]))
      have HX := Lib.hid hX
      have Hown := Lib.hid hown
      obtain ⟨x, hx⟩ : ∃ x, x = a[k] := ⟨_, rfl⟩
      rw [← hx] at c0 HX hy hz
      clear hx h5 hX hown
      have hkl : (k : Int) < (a.length : Int) := by omega
      have hk0 : (0 : Int) ≤ (k : Int) := by omega
      go_wp2_with fail
      refine (HasR_spec (Hb.out.at hbr) HX.out).mono ?_
      rintro e w1 ⟨rfl, hq⟩
      have hq1 := hq.below wr.heap.size
      have hbr1 := below_step hq1 hbr
      have e0 : w1.cell? ⟨b1, o1 + k, none⟩ = _ := (hq1.cell (p := ⟨b1, o1 + k, none⟩) l1).trans c0
      clear c0
      by_cases he : x ∈ b
      · have hy' := Lib.hid (hy.out he)
        have hd : decide (x ∈ b) = true := decide_eq_true he
        rw [hd]
        clear hy hz he hd
        go_wp2_with fail
        go_roundw
        case rel => exact ⟨k + 1, hlt, by go_num, by rw [hy'.out]; exact Hown.out.move hq1, hbr1⟩
        case measure => simp [intOf]; omega
      · have hz' := Lib.hid (hz.out he)
        have hd : decide (x ∈ b) = false := decide_eq_false he
        rw [hd]
        have Hown1 := Lib.hid (Hown.out.move hq1)
        have l1' : b1 < w1.heap.size := Nat.lt_of_lt_of_le l1 hq1.size
        have hln2 : (lessT (a.take k) b).length ≤ 1000000000 := by have : (lessT (a.take k) b).length = (fltL (fun t => !decide (t ∈ b)) (a.take k)).length := rfl; omega
        clear hy hz he hd
        go_wp2_with (at_builtin; refine wpList_app_seq (E := cellE) (S := fun b => S b ∧ b < w.heap.size) (Sy := fun b => S b ∧ b < w.heap.size) (base := w.heap.size) (wm := w1) (vy := .slice p1 x.length n1) (y := x) rfl (.tmp 21) (.tmp 26) 22 rfl Tryz.underlying22 infoSeq rfl Hown1.out rfl Seq.way ((HX.out.at hq1).at Seq.way) (fun b h _ => ⟨h, .inl h.2⟩) (by go_simp) (by omega) hbr1.size ?_)
        intro ao2 cap2 w2 hown2 hk2
        have H2 := Lib.hid hown2
        have K2 := Lib.hid (hbr1.trans (Below.trans (Below.mono (Seq.way : Below w1.heap.size w1 _) hbr1.size) hk2.below))
        clear hown2 hk2
        go_wp2_with fail
        go_roundw
        case rel => exact ⟨k + 1, hlt, by go_num, by rw [hz'.out]; simpa using H2.out, K2.out⟩
        case measure => simp [intOf]; omega
    · obtain rfl : k = a.length := by omega
      rw [List.take_length] at hown hln
      have Hown := Lib.hid hown
      clear hown
      go_wp2_with fail
      go_ret
      exact ⟨_, rfl, hbr, Hown.out.seq (by have : (lessT a b).length = (fltL (fun t => !decide (t ∈ b)) a).length := rfl; omega) fun b _ hb => hb.imp (·.1) id⟩

/-- Two rows, told together. -/
def Ret2 (P : Value → Value → World → Prop) (w : World) (e : Ending) (w' : World) : Prop := ∃ a b, e = .returned (.tuple #[a, b]) ∧ Below w.heap.size w w' ∧ P a b w'

set_option maxRecDepth 100000 in
theorem DiffR_spec {S T : Nat → Prop} {w : World} {v u : Value} {a b : List (List Cell)} (ha : Seq (seqE cellE) S w v a) (hb : Seq (seqE cellE) T w u b) (hla : a.length ≤ 1000000000) (hlb : b.length ≤ 1000000000) :
    Calls Tryz.prog 22 #[v, u] w (Ret2 (fun x y w' => Seq (seqE cellE) (fun _ => True) w' x (lessT b a) ∧ Seq (seqE cellE) (fun _ => True) w' y (lessT a b)) w) := by
  have Ha := Lib.hid ha
  have Hb := Lib.hid hb
  obtain ⟨aa, ac, rfl, -⟩ := ha
  obtain ⟨ba, bc, rfl, -⟩ := hb
  go_enter Tryz.func22, Tryz.ntmps22
  go_wp2_with fail
  refine (lessR_spec Hb.out Ha.out hlb).mono ?_
  rintro e w1 ⟨v1, rfl, hb1, hs1⟩
  have Hs1 := Lib.hid hs1
  obtain ⟨p1, n1, rfl, -⟩ := hs1
  go_wp2_with fail
  refine (lessR_spec (Ha.out.at hb1) (Hb.out.at hb1) hla).mono ?_
  rintro e w2 ⟨v2, rfl, hb2, hs2⟩
  have Hs2 := Lib.hid hs2
  obtain ⟨p2, n2, rfl, -⟩ := hs2
  go_wp2_with fail
  refine bodyPost_ret (v := .tuple #[.slice p1 (lessT b a).length n1, .slice p2 (lessT a b).length n2]) (by simp [results, Tryz.results22, go_sem]) rfl ?_
  exact ⟨_, _, rfl, below_step hb2 hb1, (Hs1.out.at hb2).any, Hs2.out.any⟩

/-! ### Drop -/
def dropT (t : List Cell) (l : List (List Cell)) : List (List Cell) := fltL (fun x => !decide (x = t)) l
def dropE (l : List (List Cell)) (t : List Cell) : Int := if factT t = true then (if t ∈ l then 0 else 3) else 120
def dropO (l : List (List Cell)) (t : List Cell) : List (List Cell) := if factT t = true ∧ t ∈ l then dropT t l else []
/-- A row and an error's number. -/
def RetE (P : Value → World → Prop) (n : Int) (w : World) (e : Ending) (w' : World) : Prop := ∃ o, e = .returned (.tuple #[o, .int .i64 n]) ∧ Below w.heap.size w w' ∧ P o w'

set_option maxHeartbeats 1600000 in
set_option maxRecDepth 100000 in
theorem DropR_spec {S T : Nat → Prop} {w : World} {v u : Value} {l : List (List Cell)} {t : List Cell} (hl : Seq (seqE cellE) S w v l) (ht : Seq cellE T w u t) (hlen : l.length ≤ 1000000000) :
    Calls Tryz.prog 18 #[v, u] w (RetE (fun o w' => Seq (seqE cellE) (Fr S w) w' o (dropO l t)) (dropE l t) w) := by
  have Ht := Lib.hid ht
  have Hl := Lib.hid hl
  have HlB := Lib.hid hl.bnd
  obtain ⟨aa, ac, rfl, -⟩ := hl
  obtain ⟨ta, tc, rfl, -⟩ := ht
  obtain ⟨_, _, ee, -, -, hal, -, h5⟩ := HlB.out
  simp only [Value.slice.injEq, true_and] at ee
  obtain ⟨rfl, rfl⟩ := ee
  go_enter Tryz.func18, Tryz.ntmps18
  go_wp2_with fail
  refine (FactR_spec Ht.out).mono ?_
  rintro e w1 ⟨rfl, hb1⟩
  cases hf : factT t
  · have he := Lib.hid (show dropE l t = 120 by unfold dropE; rw [hf]; rfl)
    have ho := Lib.hid (show dropO l t = [] by unfold dropO; rw [hf]; simp)
    go_wp2_with fail
    refine bodyPost_ret (v := .tuple #[.slice none 0 0, .int .i64 120]) (by simp [results, Tryz.results18, go_sem]) rfl ?_
    exact ⟨_, by rw [he.out], hb1, by rw [ho.out]; exact Seq.nil _ _ _⟩
  · go_wp2_with fail
    refine (HasR_spec (Hl.out.at hb1) (Ht.out.at hb1)).mono ?_
    rintro e w2 ⟨rfl, hq2⟩
    have hb2 := below_step (hq2.below _) hb1
    by_cases hh : t ∈ l
    · rw [decide_eq_true hh]
      have he := Lib.hid (show dropE l t = 0 by unfold dropE; rw [if_pos hf, if_pos hh])
      have ho := Lib.hid (show dropO l t = dropT t l by unfold dropO; rw [if_pos ⟨hf, hh⟩])
      have hz2 := hb2.size
      clear hh hf
      go_wp2_with fail
      go_loopw [6, 7] (fun o i wr => ∃ k : Nat, k ≤ l.length ∧ i = .int .i64 k ∧ Own (seqE cellE) (fun b => S b ∧ b < w.heap.size) w.heap.size 23 wr o (dropT t (l.take k)) ∧ Below w.heap.size w wr) (fun _ i _ => l.length - (intOf i).toNat)
      case atStart => exact ⟨0, Nat.zero_le _, rfl, Own.lit0 rfl hz2 rfl, hb2.trans (Below.mono (Seq.way : Below w2.heap.size w2 _) hz2)⟩
      case round =>
        obtain ⟨k, hk, rfl, hown, hbr⟩ := hrel
        have hzr := hbr.size
        have hln := fltL_len (fun x => !decide (x = t)) (l.take k)
        rw [List.length_take] at hln
        by_cases hlt : k < l.length
        · obtain ⟨b1, o1, p1, n1, rfl, -, l1, c0, hX⟩ := (h5.below hbr fun _ h _ => h.2).seq hlt
          have hy := Lib.hid (show l[k] = t → dropT t (l.take (k + 1)) = dropT t (l.take k) from fun h => fltL_no hlt (by simp [h]))
          have hz := Lib.hid (show ¬ l[k] = t → dropT t (l.take (k + 1)) = dropT t (l.take k) ++ [l[k]] from fun h => fltL_yes hlt (by simp [h]))
          have HX := Lib.hid hX
          have Hown := Lib.hid hown
          obtain ⟨x, hx⟩ : ∃ x, x = l[k] := ⟨_, rfl⟩
          rw [← hx] at c0 HX hy hz
          clear hx h5 hX hown
          have hkl : (k : Int) < (l.length : Int) := by omega
          have hk0 : (0 : Int) ≤ (k : Int) := by omega
          go_wp2_with fail
          refine (SameT_spec HX.out (Ht.out.at hbr)).mono ?_
          rintro e w3 ⟨rfl, hq⟩
          have hq1 := hq.below wr.heap.size
          have hbr1 := below_step hq1 hbr
          have e0 : w3.cell? ⟨b1, o1 + k, none⟩ = _ := (hq1.cell (p := ⟨b1, o1 + k, none⟩) l1).trans c0
          clear c0
          by_cases hx2 : x = t
          · have hy' := Lib.hid (hy.out hx2)
            have hd : decide (x = t) = true := decide_eq_true hx2
            rw [hd]
            clear hy hz hx2 hd
            go_wp2_with fail
            go_roundw
            case rel => exact ⟨k + 1, hlt, by go_num, by rw [hy'.out]; exact Hown.out.move hq1, hbr1⟩
            case measure => simp [intOf]; omega
          · have hz' := Lib.hid (hz.out hx2)
            have hd : decide (x = t) = false := decide_eq_false hx2
            rw [hd]
            have Hown1 := Lib.hid (Hown.out.move hq1)
            have l1' : b1 < w3.heap.size := Nat.lt_of_lt_of_le l1 hq1.size
            have hln2 : (dropT t (l.take k)).length ≤ 1000000000 := by have : (dropT t (l.take k)).length = (fltL (fun x => !decide (x = t)) (l.take k)).length := rfl; omega
            clear hy hz hx2 hd
            go_wp2_with (at_builtin; refine wpList_app_seq (E := cellE) (S := fun b => S b ∧ b < w.heap.size) (Sy := fun b => S b ∧ b < w.heap.size) (base := w.heap.size) (wm := w3) (vy := .slice p1 x.length n1) (y := x) rfl (.tmp 29) (.tmp 34) 22 rfl Tryz.underlying22 infoSeq rfl Hown1.out rfl Seq.way ((HX.out.at hq1).at Seq.way) (fun b h _ => ⟨h, .inl h.2⟩) (by go_simp) (by omega) hbr1.size ?_)
            intro ao2 cap2 w4 hown2 hk2
            have H2 := Lib.hid hown2
            have K2 := Lib.hid (hbr1.trans (Below.trans (Below.mono (Seq.way : Below w3.heap.size w3 _) hbr1.size) hk2.below))
            clear hown2 hk2
            go_wp2_with fail
            go_roundw
            case rel => exact ⟨k + 1, hlt, by go_num, by rw [hz'.out]; simpa using H2.out, K2.out⟩
            case measure => simp [intOf]; omega
        · obtain rfl : k = l.length := by omega
          rw [List.take_length] at hown hln
          have Hown := Lib.hid hown
          clear hown
          obtain ⟨oa, oc, rfl, -, -⟩ := Hown.out.shape
          go_wp2_with fail
          refine bodyPost_ret (v := .tuple #[.slice oa (dropT t l).length oc, .int .i64 0]) (by simp [results, Tryz.results18, go_sem]) rfl ?_
          refine ⟨_, by rw [he.out], hbr, ?_⟩
          rw [ho.out]
          exact Hown.out.seq (by have : (dropT t l).length = (fltL (fun x => !decide (x = t)) l).length := rfl; omega) fun b _ hb => hb.imp (·.1) id
    · rw [decide_eq_false hh]
      have he := Lib.hid (show dropE l t = 3 by unfold dropE; rw [if_pos hf, if_neg hh])
      have ho := Lib.hid (show dropO l t = [] by unfold dropO; rw [if_neg (fun h => hh h.2)])
      go_wp2_with fail
      refine bodyPost_ret (v := .tuple #[.slice none 0 0, .int .i64 3]) (by simp [results, Tryz.results18, go_sem]) rfl ?_
      exact ⟨_, by rw [he.out], hb2, by rw [ho.out]; exact Seq.nil _ _ _⟩
end Go.Proofs.YtceipnlpofebmaaGreat
