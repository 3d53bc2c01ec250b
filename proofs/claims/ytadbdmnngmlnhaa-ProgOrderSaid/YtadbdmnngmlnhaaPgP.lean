/-
  Layer 7, the document: the clauses of a predicate.
  Layer 7, the program: the clauses of a predicate.
-/
import Derived.Test.YtadbdmnngmlnhaaPgN
namespace Go.Proofs.Ytadbdmnngmlnhaa
section
open Go Go.RowKit

def ofTo (l : List Cls) (p : Prd) (k : Nat) : List Nat := (List.range k).filter fun i => match l[i]? with
  | none => false
  | some c => decide (prT c.head = p)
theorem ofTo_succ {l : List Cls} {p : Prd} {k : Nat} (hk : k < l.length) : ofTo l p (k + 1) = if prT l[k].head = p then ofTo l p k ++ [k] else ofTo l p k := by
  unfold ofTo
  rw [List.range_succ, List.filter_append]
  by_cases h : prT l[k].head = p
  · rw [if_pos h]; simp [hk, h]
  · rw [if_neg h]; simp [hk, h]
theorem ofTo_len (l : List Cls) (p : Prd) (k : Nat) : (ofTo l p k).length ≤ k := by
  have := List.length_filter_le (fun i => match l[i]? with | none => false | some c => decide (prT c.head = p)) (List.range k)
  rw [List.length_range] at this
  exact this
theorem natsI_snoc (m : List Nat) (k : Nat) : natsI (m ++ [k]) = natsI m ++ [(k : Int)] := by unfold natsI; rw [List.map_append]; rfl

set_option maxHeartbeats 3200000 in
set_option maxRecDepth 100000 in
theorem OfR_spec {S : Nat → Prop} {w : World} {v : Value} {l : List Cls} {p : Prd} (hl : Seq clsE S w v l) (hmay : ∀ c ∈ l, mayC c = true) (hlen : l.length ≤ 1000) :
    Calls Try.prog 24 #[v, .agg #[.string p.name, .int .i64 p.n]] w (Ret (fun r w' => Seq intE (fun b => w.heap.size ≤ b) w' r (natsI (ofL l p))) w) := by
  obtain ⟨W, hW⟩ : ∃ W, W = w.alloc (.cells #[.string p.name, .int .i64 p.n] 24) := ⟨_, rfl⟩
  have hbW : Below w.heap.size w W := by rw [hW]; exact Seq.way
  have HR := Lib.hid (show RowA 24 W w.heap.size [.string p.name, .int .i64 p.n] by rw [hW]; exact Row.new w [_, _] _ rfl)
  have HBW := Lib.hid hbW
  have HW := Lib.hid hW
  have HL := Lib.hid (hl.at hbW)
  have HMay := Lib.hid hmay
  have hzW := hbW.size
  obtain ⟨aa, ac, rfl, -⟩ := hl
  clear hW hbW hmay
  go_enter Try.func24, Try.ntmps24
  go_upto_region 1 with fail
  rw [← HW.out]
  have hfL := fun {w' : World} (h : Below W.heap.size W w') => Lib.hid (HL.out.at h)
  have hfR := fun {w' : World} (h : Below W.heap.size W w') => Lib.hid (show w'.cell? ⟨w.heap.size, 0, none⟩ = some (.string p.name) ∧ w'.cell? ⟨w.heap.size, 1, none⟩ = some (.int .i64 p.n) from ⟨(HR.out.at h).row.cell (j := 0) (by simp), (HR.out.at h).row.cell (j := 1) (by simp)⟩)
  obtain ⟨bf, hbf⟩ : ∃ b, b = w.heap.size := ⟨_, rfl⟩
  have Hbf := Lib.hid hbf
  simp only [← hbf] at hfR ⊢
  clear hbf
  go_wp2_with fail
  go_loopw [5, 6] (fun o i wr => ∃ k : Nat, k ≤ l.length ∧ i = .int .i64 k ∧ Hid (Own intE (fun _ => True) W.heap.size 3 wr o (natsI (ofTo l p k))) ∧ Hid (Below W.heap.size W wr)) (fun _ i _ => l.length - (intOf i).toNat)
  case atStart => exact ⟨0, Nat.zero_le _, rfl, Lib.hid (Own.lit0 rfl (Nat.le_refl _) rfl), Lib.hid Seq.way⟩
  case round =>
    obtain ⟨k, hk, rfl, hO, hbr⟩ := hrel
    have hzr := hbr.out.size
    have hol := Lib.hid (show (natsI (ofTo l p k)).length ≤ k by rw [natsI_len]; exact ofTo_len l p k)
    by_cases hlt : k < l.length
    · obtain ⟨_, _, ee, -, -, -, -, x5⟩ := (hfL hbr.out).out
      simp only [Value.slice.injEq, true_and] at ee
      obtain ⟨rfl, rfl⟩ := ee
      obtain ⟨b1, o1, ha, hc, la, lc, rfl, -, l1, c0, -, hH, -⟩ := x5.cls hlt
      obtain ⟨-, m2, -⟩ := mayC_parts (HMay.out _ (List.getElem_mem hlt))
      have hst := Lib.hid (ofTo_succ (p := p) hlt)
      have HH := Lib.hid hH
      obtain ⟨c, hcx⟩ : ∃ c, c = l[k] := ⟨_, rfl⟩
      simp only [← hcx] at c0 HH hst m2
      have hpos := m2.pos
      have hkI : (k : Int) < (l.length : Int) := by omega
      have hk0 : (0 : Int) ≤ (k : Int) := by omega
      have hki : IntOK (k : Int) := ⟨by omega, by omega⟩
      have hspec := Lib.hid (fun (W' : World) (h : Below wr.heap.size wr W') => PredR_spec (w := W') (HH.out.at h) (show 0 < c.head.length by omega))
      obtain ⟨P, hP⟩ : ∃ P, P = prT c.head := ⟨_, rfl⟩
      simp only [← hP] at hspec hst
      unfold prdV at hspec
      have Kr := fun {W' : World} (h : Below wr.heap.size wr W') => Lib.hid (show W'.cell? ⟨bf, 0, none⟩ = some (.string p.name) ∧ W'.cell? ⟨bf, 1, none⟩ = some (.int .i64 p.n) ∧ W'.cell? ⟨b1, o1 + k * 2, none⟩ = some (.slice ha c.head.length hc) from ⟨((hfR (below_step h hbr.out)).out).1, ((hfR (below_step h hbr.out)).out).2, (h.cell (p := ⟨b1, o1 + k * 2, none⟩) l1).trans c0⟩)
      clear hcx x5 hH m2 hP
      by_cases hPf : P = p
      · obtain rfl : p = P := hPf.symm
        have hst' := Lib.hid (show natsI (ofTo l p (k + 1)) = natsI (ofTo l p k) ++ [(k : Int)] by rw [hst.out, if_pos rfl, natsI_snoc])
        clear hst hPf
        go_wp2_with fail
        go_region_held3 (fun w' => w'.cell? ⟨bf, 0, none⟩ = some (.string p.name) ∧ w'.cell? ⟨bf, 1, none⟩ = some (.int .i64 p.n) ∧ w'.cell? ⟨b1, o1 + k * 2, none⟩ = some (.slice ha c.head.length hc))
          (first | exact (Kr (Below.refl _ _)).out | exact (Kr Seq.way).out | go_keep)
          (first | (go_at_call 35; refine (hspec.out _ Seq.way).mono ?_; rintro e y1 ⟨rfl, hb1⟩; have hb1' : Below wr.heap.size wr y1 := below_step hb1 Seq.way))
        have Hb1 := Lib.hid hb1'
        have HB1 := Lib.hid (below_step hb1' hbr.out)
        clear Kr c0 hb1 hb1' hspec
        go_wp2_with (at_builtin; refine wpList_app_int (wm := wr) rfl _ _ 33 rfl Try.underlying33 infoInt rfl hO.out rfl (y := (k : Int)) (below_step Seq.way Hb1.out) hki ?_ ?_ ?_ ?_)
        · first | (go_simp; done) | exact (Row.new _ [_] _ rfl).cell (j := 0) (by simp)
        · have := hol.out; omega
        · exact hzr
        · intro ao cap w' hown' hkept
          have H' := Lib.hid hown'
          have K' := Lib.hid (hbr.out.trans (Below.trans (Below.mono (below_step Seq.way Hb1.out) hzr) hkept.below))
          clear hown' hkept
          go_wp2_with fail
          go_roundw
          case rel => exact ⟨k + 1, hlt, by go_num, Lib.hid (by rw [hst'.out]; simpa using H'.out), K'⟩
          case measure => simp [intOf]; omega
      · have hst' := Lib.hid (show natsI (ofTo l p (k + 1)) = natsI (ofTo l p k) by rw [hst.out, if_neg hPf])
        rcases prd_ne hPf with q1 | ⟨q1, q2⟩
        all_goals
          clear hst hPf
          go_wp2_with fail
          go_region_held3 (fun w' => w'.cell? ⟨bf, 0, none⟩ = some (.string p.name) ∧ w'.cell? ⟨bf, 1, none⟩ = some (.int .i64 p.n) ∧ w'.cell? ⟨b1, o1 + k * 2, none⟩ = some (.slice ha c.head.length hc))
            (first | exact (Kr (Below.refl _ _)).out | exact (Kr Seq.way).out | go_keep)
            (first | (go_at_call 35; refine (hspec.out _ Seq.way).mono ?_; rintro e y1 ⟨rfl, hb1⟩; have hb1' : Below wr.heap.size wr y1 := below_step hb1 Seq.way))
          have HO1 := Lib.hid (hO.out.move hb1')
          have HB1 := Lib.hid (below_step hb1' hbr.out)
          clear Kr c0 hb1 hb1' hspec
          go_wp2_with fail
          go_roundw
          case rel => exact ⟨k + 1, hlt, by go_num, Lib.hid (by rw [hst'.out]; exact HO1.out.move Seq.way), Lib.hid (below_step Seq.way HB1.out)⟩
          case measure => simp [intOf]; omega
    · have hkn := Lib.hid (show k = l.length by omega)
      have hkI : ¬ (k : Int) < (l.length : Int) := by omega
      have ho2 := Lib.hid (show Own intE (fun _ => False) W.heap.size 3 wr _ (natsI (ofTo l p k)) from by obtain ⟨vs, g1, g2⟩ := hO.out; exact ⟨vs, g1, fun k x hx => g2 k x hx⟩)
      have hfin := Lib.hid (show ofTo l p k = ofL l p by rw [hkn.out]; rfl)
      clear hlt
      go_wp2_with fail
      go_ret
      refine ⟨_, rfl, below_step hbr.out HBW.out, ?_⟩
      rw [← hfin.out]
      exact ho2.out.seq (by have := hol.out; omega) fun b _ h => h.elim False.elim fun h => Nat.le_trans hzW h
end
section
open Go Go.RowKit

set_option maxHeartbeats 3200000 in
set_option maxRecDepth 100000 in
theorem OfP_spec {S : Nat → Prop} {w : World} {v : Value} {l : List Cls} {p : Prd} (hl : Seq clsE S w v l) (hmay : ∀ c ∈ l, mayC c = true) (hlen : l.length ≤ 1000) :
    Calls Try.prog 23 #[v, .agg #[.string p.name, .int .i64 p.n]] w (Ret (fun r w' => Seq intE (fun b => w.heap.size ≤ b) w' r (natsI (ofL l p))) w) := by
  obtain ⟨W, hW⟩ : ∃ W, W = w.alloc (.cells #[.string p.name, .int .i64 p.n] 24) := ⟨_, rfl⟩
  have hbW : Below w.heap.size w W := by rw [hW]; exact Seq.way
  have HR := Lib.hid (show RowA 24 W w.heap.size [.string p.name, .int .i64 p.n] by rw [hW]; exact Row.new w [_, _] _ rfl)
  have HBW := Lib.hid hbW
  have HW := Lib.hid hW
  have HL := Lib.hid (hl.at hbW)
  have HMay := Lib.hid hmay
  have hzW := hbW.size
  obtain ⟨aa, ac, rfl, -⟩ := hl
  clear hW hbW hmay
  go_enter Try.func23, Try.ntmps23
  go_upto_region 1 with fail
  rw [← HW.out]
  have hfL := fun {w' : World} (h : Below W.heap.size W w') => Lib.hid (HL.out.at h)
  have hfR := fun {w' : World} (h : Below W.heap.size W w') => Lib.hid (show w'.cell? ⟨w.heap.size, 0, none⟩ = some (.string p.name) ∧ w'.cell? ⟨w.heap.size, 1, none⟩ = some (.int .i64 p.n) from ⟨(HR.out.at h).row.cell (j := 0) (by simp), (HR.out.at h).row.cell (j := 1) (by simp)⟩)
  obtain ⟨bf, hbf⟩ : ∃ b, b = w.heap.size := ⟨_, rfl⟩
  have Hbf := Lib.hid hbf
  simp only [← hbf] at hfR ⊢
  clear hbf
  go_wp2_with fail
  go_loopw [5, 10] (fun o i wr => ∃ k : Nat, k ≤ l.length ∧ i = .int .i64 k ∧ Hid (Own intE (fun _ => True) W.heap.size 3 wr o (natsI (ofTo l p k))) ∧ Hid (Below W.heap.size W wr)) (fun _ i _ => l.length - (intOf i).toNat)
  case atStart => exact ⟨0, Nat.zero_le _, rfl, Lib.hid (Own.nil _ _ _ _ _), Lib.hid (Below.refl _ _)⟩
  case round =>
    obtain ⟨k, hk, rfl, hO, hbr⟩ := hrel
    have hzr := hbr.out.size
    have hol := Lib.hid (show (natsI (ofTo l p k)).length ≤ k by rw [natsI_len]; exact ofTo_len l p k)
    by_cases hlt : k < l.length
    · obtain ⟨_, _, ee, -, -, -, -, x5⟩ := (hfL hbr.out).out
      simp only [Value.slice.injEq, true_and] at ee
      obtain ⟨rfl, rfl⟩ := ee
      obtain ⟨b1, o1, ha, hc, la, lc, rfl, -, l1, c0, c1, hH, -⟩ := x5.cls hlt
      obtain ⟨-, m2, -⟩ := mayC_parts (HMay.out _ (List.getElem_mem hlt))
      have hst := Lib.hid (ofTo_succ (p := p) hlt)
      have HH := Lib.hid hH
      obtain ⟨c, hcx⟩ : ∃ c, c = l[k] := ⟨_, rfl⟩
      simp only [← hcx] at c0 c1 HH hst m2
      have hpos := m2.pos
      have hkI : (k : Int) < (l.length : Int) := by omega
      have hk0 : (0 : Int) ≤ (k : Int) := by omega
      have hki : IntOK (k : Int) := ⟨by omega, by omega⟩
      obtain ⟨W1, hW1⟩ : ∃ W1, W1 = wr.alloc (.cells #[.slice ha c.head.length hc, .slice la c.body.length lc] 31) := ⟨_, rfl⟩
      have HbW1 := Lib.hid (show Below wr.heap.size wr W1 by rw [hW1]; exact Seq.way)
      have HR1 := Lib.hid (show RowA 31 W1 wr.heap.size [.slice ha c.head.length hc, .slice la c.body.length lc] by rw [hW1]; exact Row.new wr [_, _] _ rfl)
      have HW1 := Lib.hid hW1
      obtain ⟨bq, hbq⟩ : ∃ b, b = wr.heap.size := ⟨_, rfl⟩
      have Hbq := Lib.hid hbq
      have hspec := Lib.hid (fun (W' : World) (h : Below wr.heap.size wr W') => PredP_spec (w := W') (HH.out.at h) (show 0 < c.head.length by omega))
      obtain ⟨P, hP⟩ : ∃ P, P = prT c.head := ⟨_, rfl⟩
      simp only [← hP] at hspec hst
      unfold prdV at hspec
      have Kr := fun {W' : World} (h : Below W1.heap.size W1 W') => Lib.hid (show W'.cell? ⟨bf, 0, none⟩ = some (.string p.name) ∧ W'.cell? ⟨bf, 1, none⟩ = some (.int .i64 p.n) ∧ W'.cell? ⟨bq, 0, none⟩ = some (.slice ha c.head.length hc) from
        ⟨((hfR (below_step (below_step h HbW1.out) hbr.out)).out).1, ((hfR (below_step (below_step h HbW1.out) hbr.out)).out).2, by rw [Hbq.out]; exact (HR1.out.at h).row.cell (j := 0) (by simp)⟩)
      have HOW := Lib.hid (hO.out.move HbW1.out)
      have hspec1 := Lib.hid (fun (W' : World) (h : Below W1.heap.size W1 W') => hspec.out W' (below_step h HbW1.out))
      clear hcx x5 hH m2 hP hW1 hbq
      by_cases hPf : P = p
      · obtain rfl : p = P := hPf.symm
        have hst' := Lib.hid (show natsI (ofTo l p (k + 1)) = natsI (ofTo l p k) ++ [(k : Int)] by rw [hst.out, if_pos rfl, natsI_snoc])
        clear hst hPf
        go_upto_region 5 with fail
        rw [← HW1.out, ← Hbq.out]
        go_region_held3 (fun w' => w'.cell? ⟨bf, 0, none⟩ = some (.string p.name) ∧ w'.cell? ⟨bf, 1, none⟩ = some (.int .i64 p.n) ∧ w'.cell? ⟨bq, 0, none⟩ = some (.slice ha c.head.length hc))
          (first | exact (Kr (Below.refl _ _)).out | exact (Kr Seq.way).out | go_keep)
          (first | (go_at_call 49; refine (hspec1.out _ Seq.way).mono ?_; rintro e y1 ⟨rfl, hb1⟩; have hb1w : Below W1.heap.size W1 y1 := below_step hb1 Seq.way; have hb1' : Below wr.heap.size wr y1 := below_step hb1w HbW1.out))
        have Hb1 := Lib.hid hb1'
        have HB1 := Lib.hid (below_step hb1' hbr.out)
        clear Kr c0 c1 hb1 hb1w hb1' hspec hspec1
        go_wp2_with (at_builtin; refine wpList_app_int (wm := wr) rfl _ _ 33 rfl Try.underlying33 infoInt rfl hO.out rfl (y := (k : Int)) (below_step Seq.way Hb1.out) hki ?_ ?_ ?_ ?_)
        · first | (go_simp; done) | exact (Row.new _ [_] _ rfl).cell (j := 0) (by simp)
        · have := hol.out; omega
        · exact hzr
        · intro ao cap w' hown' hkept
          have H' := Lib.hid hown'
          have K' := Lib.hid (hbr.out.trans (Below.trans (Below.mono (below_step Seq.way Hb1.out) hzr) hkept.below))
          clear hown' hkept
          go_wp2_with fail
          go_roundw
          case rel => exact ⟨k + 1, hlt, by go_num, Lib.hid (by rw [hst'.out]; simpa using H'.out), K'⟩
          case measure => simp [intOf]; omega
      · have hst' := Lib.hid (show natsI (ofTo l p (k + 1)) = natsI (ofTo l p k) by rw [hst.out, if_neg hPf])
        rcases prd_ne hPf with q1 | ⟨q1, q2⟩
        all_goals
          clear hst hPf
          go_upto_region 5 with fail
          rw [← HW1.out, ← Hbq.out]
          go_region_held3 (fun w' => w'.cell? ⟨bf, 0, none⟩ = some (.string p.name) ∧ w'.cell? ⟨bf, 1, none⟩ = some (.int .i64 p.n) ∧ w'.cell? ⟨bq, 0, none⟩ = some (.slice ha c.head.length hc))
            (first | exact (Kr (Below.refl _ _)).out | exact (Kr Seq.way).out | go_keep)
            (first | (go_at_call 49; refine (hspec1.out _ Seq.way).mono ?_; rintro e y1 ⟨rfl, hb1⟩; have hb1w : Below W1.heap.size W1 y1 := below_step hb1 Seq.way; have hb1' : Below wr.heap.size wr y1 := below_step hb1w HbW1.out))
          have HO1 := Lib.hid (hO.out.move hb1')
          have HB1 := Lib.hid (below_step hb1' hbr.out)
          clear Kr c0 c1 hb1 hb1w hb1' hspec hspec1
          go_wp2_with fail
          go_roundw
          case rel => exact ⟨k + 1, hlt, by go_num, Lib.hid (by rw [hst'.out]; exact HO1.out.move Seq.way), Lib.hid (below_step Seq.way HB1.out)⟩
          case measure => simp [intOf]; omega
    · have hkn := Lib.hid (show k = l.length by omega)
      have hkI : ¬ (k : Int) < (l.length : Int) := by omega
      have ho2 := Lib.hid (show Own intE (fun _ => False) W.heap.size 3 wr _ (natsI (ofTo l p k)) from by obtain ⟨vs, g1, g2⟩ := hO.out; exact ⟨vs, g1, fun k x hx => g2 k x hx⟩)
      have hfin := Lib.hid (show ofTo l p k = ofL l p by rw [hkn.out]; rfl)
      clear hlt
      go_wp2_with fail
      go_ret
      refine ⟨_, rfl, below_step hbr.out HBW.out, ?_⟩
      rw [← hfin.out]
      exact ho2.out.seq (by have := hol.out; omega) fun b _ h => h.elim False.elim fun h => Nat.le_trans hzW h
end
end Go.Proofs.Ytadbdmnngmlnhaa
