/-
  Layer 2, the program: slices.DeleteFunc at bindings.
-/
import Derived.Test.YtgfiaddldmmjiaaSuM
namespace Go.Proofs.Ytgfiaddldmmjiaa
open Go Go.RowKit

set_option maxHeartbeats 4000000 in
set_option maxRecDepth 100000 in
theorem deleteB_spec {S : Nat → Prop} {w : World} {v : Value} {l : List Bnd} {base : Nat} (hl : Own bindE S base 44 w v l) (hbase : base ≤ w.heap.size) (hlen : l.length ≤ 1000000000) :
    Calls Try.prog 41 #[v, .func (.func 42) #[] #[]] w (fun e w' => ∃ o, e = .returned o ∧ Below base w w' ∧ Own bindE S base 44 w' o (keptL l)) := by
  have hseq := hl.seqB (T := fun _ => True) (by omega) fun _ _ _ => trivial
  have hspec := Lib.hid (indexB_spec hseq)
  clear hseq
  rw [← stayB_kept]
  cases hany : l.any ownB
  · have hx : idxB l = -1 := by unfold idxB; rw [hany]; rfl
    rw [hx] at hspec
    have hst := Lib.hid (stayB_all hany)
    have Hl := Lib.hid hl
    obtain ⟨aa, ac, rfl, -, -⟩ := hl.shape
    clear hx hl hany
    go_enter Try.func41, Try.ntmps41
    go_wp2_with fail
    refine hspec.out.mono ?_
    rintro e w1 ⟨rfl, hb1⟩
    go_wp2_with fail
    go_ret
    exact ⟨_, rfl, hb1.mono hbase, by rw [hst.out]; exact Hl.out.move hb1⟩
  · have hfl : l.findIdx ownB < l.length := by rw [List.findIdx_lt_length]; exact List.any_eq_true.1 hany
    have hx : idxB l = (l.findIdx ownB : Nat) := by unfold idxB; rw [hany]; rfl
    rw [hx] at hspec
    have hfp : ownB (l[l.findIdx ownB]'hfl) = true := List.findIdx_getElem
    have hst1 := stayB_no hfl hfp
    have hst := stayB_first (l := l)
    obtain ⟨g, cap, cur, rfl, hg, hc, hm, hcl, hR, hF⟩ := hl.flatE (by intro e; rw [e] at hfl; simp at hfl)
    have hF' : FlatE bindE (fun b => (S b ∧ b ≠ g) ∧ b < w.heap.size) w (cur.take (l.length * 2)) l := hF.mono (fun _ h h2 => ⟨h, h2⟩) fun _ _ _ => rfl
    have hcl2 : cur.length = cap * 2 := hcl
    have hmv := Lib.hid (fun (w' : World) (hw : w.grownBy w' (some g)) => fun b (h : (S b ∧ b ≠ g) ∧ b < w.heap.size) => grown_kept hw h.2 h.1.2)
    obtain ⟨i0, hi0⟩ : ∃ i0, i0 = l.findIdx ownB := ⟨_, rfl⟩
    rw [← hi0] at hst1 hst hspec hfl
    have hst2 : stayB l (i0 + 1) = l.take i0 := hst1.trans hst
    have hst2l := Lib.hid (show (stayB l (i0 + 1)).length = i0 by rw [hst2, List.length_take]; omega)
    have hFr := Lib.hid (show FlatE bindE (fun b => (S b ∧ b ≠ g) ∧ b < w.heap.size) w (cur.take (i0 * 2)) (stayB l (i0 + 1)) by
      rw [hst2]
      have := hF'.take i0 (by omega)
      rwa [show bindE.sz = 2 from rfl, List.take_take, Nat.min_eq_left (by omega)] at this)
    have HF := Lib.hid hF'
    have hgl := hR.lt
    have hzw : w.heap.size ≤ w.heap.size := Nat.le_refl _
    clear hF hF' hst2 hst hst1 hfp hi0 hx hany hl hcl
    unfold maxLen at hm
    go_enter Try.func41, Try.ntmps41
    go_wp2_with fail
    refine hspec.out.mono ?_
    rintro e w1 ⟨rfl, hb1⟩
    have hi1 : ((i0 : Int) == -1) = false := by rw [beq_eq_false_iff_ne]; omega
    have hR1 := hR.below hb1 hR.lt
    have hg1 := Lib.hid (grown_of_below (World.grownBy.refl w (some g)) hb1)
    go_wp2_with fail
    go_loopw [5, 6] (fun i jj wr => ∃ n : Nat, n ≤ l.length ∧ i0 + 1 ≤ n ∧ jj = .int .i64 n ∧ i = .int .i64 ((stayB l n).length : Nat) ∧ (stayB l n).length < n ∧ Hid (w.grownBy wr (some g)) ∧
      ∃ cur, Hid (Row 44 wr g cur) ∧ cur.length = cap * 2 ∧ Hid (FlatE bindE (fun b => (S b ∧ b ≠ g) ∧ b < w.heap.size) wr (cur.take ((stayB l n).length * 2)) (stayB l n)) ∧ Hid (FlatE bindE (fun b => (S b ∧ b ≠ g) ∧ b < w.heap.size) wr ((cur.take (l.length * 2)).drop (n * 2)) (l.drop n))) (fun _ jj _ => l.length - (intOf jj).toNat)
    case atStart =>
      exact ⟨i0 + 1, hfl, Nat.le_refl _, by go_num, by rw [hst2l.out], by rw [hst2l.out]; omega, hg1, cur, Lib.hid hR1, hcl2, Lib.hid (by rw [hst2l.out]; exact hFr.out.mono (fun _ h _ => h) fun b h _ => hmv.out _ hg1.out b h), Lib.hid ((HF.out.drop (i0 + 1)).mono (fun _ h _ => h) fun b h _ => hmv.out _ hg1.out b h)⟩
    case round =>
      clear hR1 hg1 hR hcl2 hFr HF hb1
      obtain ⟨n, hn, hin1, rfl, rfl, hsl, hwr, cur, hRc, hcc, hfront, hback⟩ := hrel
      have hgl := hRc.out.lt
      have hz0 := hwr.out.size
      by_cases hlt : n < l.length
      · obtain ⟨cs, ⟨vt, rfl, okx, hX⟩, hy1⟩ := hback.out.2 0 l[n] (by rw [List.getElem?_drop]; simp)
        have hy0 := hy1 0 (by decide)
        have hy2 := hy1 1 (by decide)
        have e2 : bindE.sz = 2 := rfl
        simp only [e2, Nat.zero_mul, Nat.zero_add, Nat.add_zero, List.getElem?_drop, List.getElem?_cons_zero, List.getElem?_cons_succ] at hy0 hy2
        rw [List.getElem?_take_of_lt (by omega)] at hy0 hy2
        have HX := Lib.hid hX
        obtain ⟨p1, n1, rfl, -⟩ := hX
        have c0 : wr.cell? ⟨g, n * 2, none⟩ = some (.int .i64 l[n].var) := by
          rw [hRc.out.cell (j := n * 2) (by omega), ← hy0, List.getElem?_eq_getElem (by omega)]
        have c1 : wr.cell? ⟨g, n * 2 + 1, none⟩ = some (.slice p1 l[n].t.length n1) := by
          rw [hRc.out.cell (j := n * 2 + 1) (by omega), ← hy2, List.getElem?_eq_getElem (by omega)]
        have hyes := Lib.hid (stayB_yes hlt)
        have hno := Lib.hid (stayB_no hlt)
        have hbk := Lib.hid (show FlatE bindE (fun b => (S b ∧ b ≠ g) ∧ b < w.heap.size) wr ((cur.take (l.length * 2)).drop ((n + 1) * 2)) (l.drop (n + 1)) by
          have := hback.out.drop 1
          rw [e2, List.drop_drop, List.drop_drop] at this
          rwa [show (n + 1) * 2 = n * 2 + 1 * 2 by omega])
        have hpe := Lib.hid (show ownB l[n] = isV l[n].var l[n].t from rfl)
        obtain ⟨p, hp⟩ : ∃ p, p = ownB l[n] := ⟨_, rfl⟩
        rw [← hp] at hyes hno hpe
        obtain ⟨⟨xa, xt⟩, hxe⟩ : ∃ x, x = l[n] := ⟨_, rfl⟩
        rw [← hxe] at c0 c1 HX hyes hpe okx
        dsimp only at c0 c1 HX hpe okx
        clear hxe hback hy0 hy1 hy2 hp e2
        have hnl : (n : Int) < (l.length : Int) := by omega
        have hn0 : (0 : Int) ≤ (n : Int) := by omega
        obtain ⟨s, hs⟩ : ∃ s, s = (stayB l n).length := ⟨_, rfl⟩
        have Hs := Lib.hid hs
        rw [← hs] at hsl hfront ⊢
        clear hs
        go_wp2_with fail
        refine (comp1_spec (n := xa) (HX.out.at Seq.way)).mono ?_
        rw [← hpe.out]
        rintro e w' ⟨rfl, hb'⟩
        have hbx := below_step hb' (Seq.way : Below wr.heap.size wr _)
        have hx2 := ((Row.new wr [.int .i64 xa, .slice p1 xt.length n1] 44 rfl)).below hb' (by simp)
        have d0 := hx2.cell (j := 0) (by simp)
        have d1 := hx2.cell (j := 1) (by simp)
        simp only [List.getElem_cons_zero, List.getElem_cons_succ] at d0 d1
        have hwr' := Lib.hid (grown_of_below hwr.out hbx)
        have hR' := Lib.hid (hRc.out.below hbx hgl)
        have HX' := Lib.hid (HX.out.at hbx)
        have hF1 := Lib.hid (hfront.out.mono (w' := w') (T := fun b => (S b ∧ b ≠ g) ∧ b < w.heap.size) (fun _ h _ => h) fun b h hb => hbx.block b hb)
        have hB1 := Lib.hid (hbk.out.mono (w' := w') (T := fun b => (S b ∧ b ≠ g) ∧ b < w.heap.size) (fun _ h _ => h) fun b h hb => hbx.block b hb)
        clear hx2
        cases p
        · have hsn := Lib.hid (hyes.out rfl)
          have hml : s * 2 + 1 < cur.length := by omega
          have hs0 : (0 : Int) ≤ (s : Int) := by omega
          have hsi : (s : Int) < (l.length : Int) := by omega
          have q0 := hR'.out.cell (j := s * 2) (by omega)
          have q1 := hR'.out.cell (j := s * 2 + 1) (by omega)
          have q2 := hR'.out.frozen (s * 2)
          have q3 := hR'.out.frozen (s * 2 + 1)
          clear hyes hno
          go_wp2_with fail
          go_roundw
          case rel =>
            have hsl' : (stayB l (n + 1)).length = s + 1 := by rw [hsn.out, List.length_append, ← Hs.out]; rfl
            have hG := grown_trans (grown_setCell w' g (s * 2) (.int .i64 xa)) (grown_setCell (w'.setCell ⟨g, s * 2, none⟩ (.int .i64 xa)) g (s * 2 + 1) (.slice p1 xt.length n1))
            have hkp : ∀ b, (S b ∧ b ≠ g) ∧ b < w.heap.size → b < w'.heap.size → ((w'.setCell ⟨g, s * 2, none⟩ (.int .i64 xa)).setCell ⟨g, s * 2 + 1, none⟩ (.slice p1 xt.length n1)).heap[b]? = w'.heap[b]? := fun b h hb => grown_kept hG hb h.1.2
            refine ⟨n + 1, hlt, by omega, by go_num, by rw [hsl']; go_num, by omega, Lib.hid (grown_trans hwr'.out hG), _, Lib.hid ((hR'.out.set _ _).set _ _), by simpa using hcc, Lib.hid ?_, Lib.hid ?_⟩
            · rw [hsl', hsn.out]
              exact (hF1.out.put2 (x := ⟨xa, xt⟩) hml okx (HX'.out.mono (T := fun b => (S b ∧ b ≠ g) ∧ b < w.heap.size) (fun _ h _ => h) fun _ _ _ => rfl)).mono (fun _ h _ => h) hkp
            · rw [List.take_set, List.take_set, List.drop_set_of_lt (by omega), List.drop_set_of_lt (by omega)]
              exact hB1.out.mono (fun _ h _ => h) hkp
          case measure => simp [intOf]; omega
        · have hsn := Lib.hid (hno.out rfl)
          clear hyes hno
          go_wp2_with fail
          go_roundw
          case rel =>
            have hsl' : (stayB l (n + 1)).length = s := by rw [hsn.out, ← Hs.out]
            exact ⟨n + 1, hlt, by omega, by go_num, by rw [hsl'], by omega, hwr', cur, hR', hcc, Lib.hid (by rw [hsl', hsn.out]; exact hF1.out), hB1⟩
          case measure => simp [intOf]; omega
      · obtain rfl : n = l.length := by omega
        obtain ⟨s, hs⟩ : ∃ s, s = (stayB l l.length).length := ⟨_, rfl⟩
        have Hs := Lib.hid hs
        rw [← hs] at hsl hfront ⊢
        clear hs hback
        have hzl : (Builtin.zeroCells (Value.agg #[.int .i64 0, .slice none 0 0]).cells (l.length - s)).toList.length = (l.length - s) * 2 := by simp [Builtin.zeroCells, Value.cells]
        obtain ⟨news, hnews⟩ : ∃ news, news = (Builtin.zeroCells (Value.agg #[.int .i64 0, .slice none 0 0]).cells (l.length - s)).toList := ⟨_, rfl⟩
        have hclr : ∀ ty, (Builtin.clear_ #[22] ty #[.slice (some ⟨g, s * 2, none⟩) (l.length - s) (cap - s)]).run Try.prog wr = .ok (.tuple #[]) (wr.setCells g (s * 2) news) :=
          fun ty => by
            rw [hnews]
            exact run_clear_sliceK wr _ _ ty _ Try.underlying22 zeroB (by simp [Value.cells, Value.oneCell']) g (s * 2) _ _ (by omega) (fun t ht => by
              have ht' : t < (l.length - s) * 2 := ht
              rw [hRc.out.cell (j := s * 2 + t) (by omega)]; rfl) (fun t _ => hRc.out.frozen _)
        rw [← hnews] at hzl
        have hmc : ¬ cap = s := by omega
        have hR2 := Lib.hid (hRc.out.setCells (vs := news) (o := s * 2) (by omega))
        have hG := Lib.hid (grown_setCells g news (s * 2) wr)
        have Hzl := Lib.hid hzl
        have hll : (l.length : Int) ≤ (l.length : Int) := Int.le_refl _
        clear hnews hzl
        go_wp2_with fail
        go_ret
        have hz3 := Hzl.out
        have hbG : Below base wr _ := grown_below hG.out hg (Nat.le_trans hbase hz0)
        refine ⟨_, rfl, (grown_below hwr.out hg hbase).trans hbG, FlatE.own (E := bindE) hR2.out Hs.out ?_ hg (by rw [splice_len _ _ _ (by omega)]; exact hcc) (by omega) hm⟩
        rw [show bindE.sz = 2 from rfl, splice_take _ _ _ (by omega)]
        exact hfront.out.mono (fun b h _ => h.1) fun b h hb => grown_kept hG.out hb h.1.2
end Go.Proofs.Ytgfiaddldmmjiaa
