/-
  Layer 7, the program: predicates.
-/
import Derived.Test.YtadbdmnngmlnhaaPgI
import Derived.Test.YtadbdmnngmlnhaaPgW
import Derived.Test.YtadbdmnngmlnhaaPhC
import Derived.Deep.CutBlock
namespace Go.Proofs.Ytadbdmnngmlnhaa
open Go Go.RowKit

set_option maxHeartbeats 6400000 in
set_option maxRecDepth 100000 in
theorem PredsP_spec {S : Nat → Prop} {w : World} {v : Value} {l : List Cls} (hl : Seq clsE S w v l) (hmay : ∀ c ∈ l, mayC c = true) (hlen : l.length ≤ 1000) :
    Calls Try.prog 20 #[v] w (Ret (fun r w' => Seq prdE (fun b => w.heap.size ≤ b) w' r (predsL l)) w) := by
  have HL := Lib.hid hl
  have HMay := Lib.hid hmay
  have hall := Lib.hid (allP_len hmay)
  obtain ⟨aa, ac, rfl, -⟩ := hl
  clear hmay
  go_enter Try.func20, Try.ntmps20
  go_wp2_with fail
  go_loopw [3, 10] (fun o i wr => ∃ k : Nat, k ≤ l.length ∧ i = .int .i64 k ∧ Hid (Own prdE (fun _ => False) w.heap.size 24 wr o (allP (l.take k))) ∧ Hid (Below w.heap.size w wr)) (fun _ i _ => l.length - (intOf i).toNat)
  case atStart => exact ⟨0, Nat.zero_le _, rfl, Lib.hid (Own.nil _ _ _ _ _), Lib.hid (Below.refl _ _)⟩
  case round =>
    obtain ⟨k, hk, rfl, hO, hbr⟩ := hrel
    have hzr := hbr.out.size
    by_cases hlt : k < l.length
    · obtain ⟨_, _, ee, -, -, -, -, x5⟩ := HL.out
      simp only [Value.slice.injEq, true_and] at ee
      obtain ⟨rfl, rfl⟩ := ee
      obtain ⟨b1, o1, ha, hc, la, lc, rfl, -, l1, c0, c1, hH, hB⟩ := x5.cls hlt
      replace c0 : wr.cell? ⟨b1, o1 + k * 2, none⟩ = _ := (hbr.out.cell (p := ⟨b1, o1 + k * 2, none⟩) l1).trans c0
      replace c1 : wr.cell? ⟨b1, o1 + k * 2 + 1, none⟩ = _ := (hbr.out.cell (p := ⟨b1, o1 + k * 2 + 1, none⟩) l1).trans c1
      have hst := Lib.hid (allP_succ hlt)
      have hAl := allP_len (l := l.take k) fun c hc => HMay.out c (List.mem_of_mem_take hc)
      rw [List.length_take] at hAl
      obtain ⟨m1, m2, m3⟩ := mayC_parts (HMay.out _ (List.getElem_mem hlt))
      have HH := Lib.hid hH
      have HB := Lib.hid hB
      obtain ⟨c, hcx⟩ : ∃ c, c = l[k] := ⟨_, rfl⟩
      rw [← hcx] at c0 c1 HH HB hst m1 m2 m3
      have hM1 := Lib.hid m1
      have hpos := m2.pos
      obtain ⟨A, hA⟩ : ∃ A, A = allP (l.take k) := ⟨_, rfl⟩
      rw [← hA] at hO hst hAl
      have hkI : (k : Int) < (l.length : Int) := by omega
      have hk0 : (0 : Int) ≤ (k : Int) := by omega
      have hAl2 : A.length ≤ 9000 := by omega
      obtain ⟨p1, p2⟩ := prT_ok HH.out hpos
      obtain ⟨P, hP⟩ : ∃ P, P = prT c.head := ⟨_, rfl⟩
      have HP := Lib.hid hP
      rw [← hP] at p1 p2 hst
      clear hcx x5 hH hB m1 m2 hA hAl hP
      go_wp2_with fail
      refine (PredP_spec (HH.out.at (below_step Seq.way hbr.out)) (by omega)).mono ?_
      rw [← HP.out]
      unfold prdV
      rintro e y1 ⟨rfl, hb1⟩
      have hr1 := (Row.new wr [.slice ha c.head.length hc, .slice la c.body.length lc] 31 rfl).below hb1 (by simp)
      obtain ⟨bq, hbq⟩ : ∃ b, b = wr.heap.size := ⟨_, rfl⟩
      have Hbq := Lib.hid hbq
      have d1 : y1.cell? ⟨bq, 1, none⟩ = some (.slice la c.body.length lc) := by rw [hbq]; exact hr1.cell (j := 1) (by simp)
      have l1 : bq < y1.heap.size := by rw [hbq]; exact hr1.lt
      have Hb1 := Lib.hid (below_step hb1 (Seq.way : Below wr.heap.size wr _))
      rw [← hbq]
      clear hb1 c0 c1 hr1 hbq
      go_wp2_with (at_builtin; (refine wpList_app_prd (wm := wr) (y := P) rfl _ _ 36 rfl Try.underlying36 infoPrd rfl hO.out rfl (below_step Seq.way Hb1.out) p1 p2 ((Row.new _ [_, _] _ rfl).cell (j := 0) (by simp)) ((Row.new _ [_, _] _ rfl).cell (j := 1) (by simp)) (by omega) hzr ?_))
      intro ao cap w5 hown5 hk5
      have H5 := Lib.hid hown5
      have K5 := Lib.hid (hbr.out.trans (Below.trans (Below.mono (below_step Seq.way Hb1.out) hzr) hk5.below))
      have d5 : w5.cell? ⟨bq, 1, none⟩ = some (.slice la c.body.length lc) := by
        rw [hk5.cell 1 (by rw [Hbq.out]; exact Nat.le_refl _) (by simp; omega)]
        exact (Below.cell (Seq.way : Below y1.heap.size y1 _) (p := ⟨bq, 1, none⟩) l1).trans d1
      clear hown5 hk5 d1 p1 p2
      go_wp2_with fail
      go_loopw [3, 23] (fun o i wz => ∃ j : Nat, j ≤ c.body.length ∧ i = .int .i64 j ∧ Hid (Own prdE (fun _ => False) w.heap.size 24 wz o (A ++ P :: (c.body.take j).map fun b => prT b.t)) ∧ Hid (Below w.heap.size w wz)) (fun _ i _ => c.body.length - (intOf i).toNat)
      case atStart => exact ⟨0, Nat.zero_le _, rfl, Lib.hid (by simpa using H5.out), K5⟩
      case round =>
        clear H5 K5 d5 Hb1
        obtain ⟨j, hj, rfl, hO5, hbz⟩ := hrel
        have hzz := hbz.out.size
        by_cases hjl : j < c.body.length
        · obtain ⟨_, _, ee, -, -, -, -, x6⟩ := HB.out
          simp only [Value.slice.injEq, true_and] at ee
          obtain ⟨rfl, rfl⟩ := ee
          obtain ⟨b2, o2, ta, tc, rfl, -, l3, e0, e1, hT⟩ := x6.lit hjl
          replace e0 : wr.cell? ⟨b2, o2 + j * 2, none⟩ = _ := (hbz.out.cell (p := ⟨b2, o2 + j * 2, none⟩) l3).trans e0
          replace e1 : wr.cell? ⟨b2, o2 + j * 2 + 1, none⟩ = _ := (hbz.out.cell (p := ⟨b2, o2 + j * 2 + 1, none⟩) l3).trans e1
          have HT := Lib.hid hT
          have hjx := Lib.hid (show A ++ P :: (c.body.take (j + 1)).map (fun b => prT b.t) = (A ++ P :: (c.body.take j).map fun b => prT b.t) ++ [prT c.body[j].t] by rw [List.take_succ_eq_append_getElem hjl, List.map_append]; simp only [List.map_cons, List.map_nil, List.append_assoc, List.cons_append])
          have hxp := (hM1.out _ (List.getElem_mem hjl)).pos
          obtain ⟨xn, hxn⟩ : ∃ x, x = c.body[j].neg := ⟨_, rfl⟩
          obtain ⟨x, hx⟩ : ∃ x, x = c.body[j].t := ⟨_, rfl⟩
          rw [← hxn] at e0
          rw [← hx] at e1 HT hjx hxp
          obtain ⟨Q, hQ⟩ : ∃ Q, Q = A ++ P :: (c.body.take j).map fun b => prT b.t := ⟨_, rfl⟩
          have hQl : Q.length ≤ 9100 := by rw [hQ]; simp; omega
          rw [← hQ] at hO5 hjx
          have hjI : (j : Int) < (c.body.length : Int) := by omega
          have hj0 : (0 : Int) ≤ (j : Int) := by omega
          obtain ⟨p1, p2⟩ := prT_ok HT.out hxp
          obtain ⟨R, hR⟩ : ∃ R, R = prT x := ⟨_, rfl⟩
          have HR := Lib.hid hR
          rw [← hR] at hjx p1 p2
          clear hx hxn x6 hT hQ hR
          go_wp2_with fail
          refine (PredP_spec (HT.out.at (below_step Seq.way hbz.out)) (by omega)).mono ?_
          rw [← HR.out]
          unfold prdV
          rintro e z1 ⟨rfl, hb3⟩
          have Hb3 := Lib.hid (below_step hb3 (Seq.way : Below wr.heap.size wr _))
          clear hb3 e0 e1
          go_wp2_with (at_builtin; (refine wpList_app_prd (wm := wr) (y := R) rfl _ _ 36 rfl Try.underlying36 infoPrd rfl hO5.out rfl (below_step Seq.way Hb3.out) p1 p2 ((Row.new _ [_, _] _ rfl).cell (j := 0) (by simp)) ((Row.new _ [_, _] _ rfl).cell (j := 1) (by simp)) (by omega) hzz ?_))
          intro ao2 cap2 w6 hown6 hk6
          have H6 := Lib.hid hown6
          have K6 := Lib.hid (hbz.out.trans (Below.trans (Below.mono (below_step Seq.way Hb3.out) hzz) hk6.below))
          clear hown6 hk6 p1 p2
          go_wp2_with fail
          go_roundw
          case rel => exact ⟨j + 1, hjl, by go_num, Lib.hid (by rw [hjx.out]; simpa using H6.out), K6⟩
          case measure => simp [intOf]; omega
        · have hje := Lib.hid (show A ++ P :: (c.body.take j).map (fun b => prT b.t) = allP (l.take (k + 1)) by
            rw [show j = c.body.length by omega, List.take_length, hst.out])
          have hjI : ¬ (j : Int) < (c.body.length : Int) := by omega
          clear hjl
          go_wp2_with fail
          go_roundw
          case rel => exact ⟨k + 1, hlt, by go_num, Lib.hid (by rw [← hje.out]; exact hO5.out), hbz⟩
          case measure => simp [intOf]; omega
    · have hkn := Lib.hid (show k = l.length by omega)
      have hkI : ¬ (k : Int) < (l.length : Int) := by omega
      have hO6 := Lib.hid (show Own prdE (fun _ => False) w.heap.size 24 wr _ (allP l) from by have := hO.out; rw [hkn.out, List.take_length] at this; exact this)
      clear hlt hO
      go_wp2_with fail
      refine (sortP_spec hO6.out hzr (by have := hall.out; omega)).mono ?_
      rintro e w7 ⟨rfl, hb7, l', hp, hs, hO7⟩
      have H7 := Lib.hid hO7
      have B7 := Lib.hid (hbr.out.trans hb7)
      have Hps := Lib.hid (show l'.length = (allP l).length ∧ cptL l' = predsL l from ⟨hp.length_eq, cpt_set cmpP_ok hp hs⟩)
      clear hO7 hb7 hp hs
      go_wp2_with fail
      refine (compactP_spec H7.out B7.out.size (by have := hall.out; have := Hps.out.1; omega)).mono ?_
      rintro e w8 ⟨r, rfl, hb8, hO8⟩
      have H8 := Lib.hid hO8
      have B8 := Lib.hid (B7.out.trans hb8)
      clear hO8 hb8
      go_wp2_with fail
      go_ret
      refine ⟨_, rfl, B8.out, ?_⟩
      have h9 := H8.out
      rw [Hps.out.2] at h9
      exact h9.seq (by have := setL_le (c := cmpP) (allP l); have := hall.out; unfold predsL; omega) fun b _ h => h.elim False.elim id
end Go.Proofs.Ytadbdmnngmlnhaa
