/-
  Layer 13: what is done to the facts, whatever fails (program); Now.
-/
import Derived.Test.YteefdmpaclnaiaaTnI
namespace Go.Proofs.Yteefdmpaclnaiaa
open Go Go.RowKit
theorem goC_spec {w : World} : Calls Try.prog 50 #[] w (PureV (.bool true) w) := by
  go_enter Try.func50, Try.ntmps50
  go_wp2_with fail
  go_ret
  exact ⟨rfl, rfl⟩
set_option maxHeartbeats 4000000 in
set_option maxRecDepth 100000 in
theorem doN_spec {S : Nat → Prop} {w : World} {v u : Value} {l : List (List Cell)} {todo : List Chg} (hl : Seq (seqE cellE) S w v l) (ht : Seq changeE S w u todo) (hrow : RowT l) :
    Calls Try.prog 43 #[v, u, .func (.func 50) #[] #[]] w (Ret (fun o w' => Seq (seqE cellE) (Fr S w) w' o (nowL l todo)) w) := by
  have H0 := Lib.hid ((hl.bnd.mono (T := Fr S w) (fun b h _ => .inl h.1) fun _ _ _ => rfl))
  obtain ⟨la, lc, rfl, -⟩ := hl
  obtain ⟨ta, tc, rfl, -, -, hal, -, h5⟩ := ht.bnd
  have Hrow := Lib.hid hrow
  clear hrow ht
  go_enter Try.func43, Try.ntmps43
  go_wp2_with fail
  go_loopw [0, 14] (fun o i wr => ∃ k : Nat, k ≤ todo.length ∧ i = .int .i64 k ∧ Seq (seqE cellE) (Fr S w) wr o (nowL l (todo.take k)) ∧ Below w.heap.size w wr) (fun _ i _ => todo.length - (intOf i).toNat)
  case atStart => exact ⟨0, Nat.zero_le _, rfl, H0.out, Below.refl _ _⟩
  case round =>
    obtain ⟨k, hk, rfl, ho, hbr⟩ := hrel
    have hzr := hbr.size
    have Ho := Lib.hid ho
    obtain ⟨oa, oc, rfl⟩ := ho.shape
    by_cases hlt : k < todo.length
    · obtain ⟨b1, o1, pa, pc, rfl, -, hbl, e0, e1, hX⟩ := (h5.below hbr fun _ h _ => h.2).chg hlt
      have hst := Lib.hid (show nowL l (todo.take (k + 1)) = if doE (nowL l (todo.take k)) todo[k] = 0 then doO (nowL l (todo.take k)) todo[k] else nowL l (todo.take k) by
        rw [List.take_succ_eq_append_getElem hlt, nowL_snoc])
      have Hr := Lib.hid (nowL_rowT (todo := todo.take k) Hrow.out)
      obtain ⟨m, hm⟩ : ∃ m, m = nowL l (todo.take k) := ⟨_, rfl⟩
      rw [← hm] at hst Ho Hr ⊢
      obtain ⟨c, hc⟩ : ∃ c, c = todo[k] := ⟨_, rfl⟩
      rw [← hc] at hst e0 e1 hX 
      have HX := Lib.hid hX
      clear hm hc hX h5 ho 
      have hkl : (k : Int) < (todo.length : Int) := by omega
      have hk0 : (0 : Int) ≤ (k : Int) := by omega
      obtain ⟨W, hW⟩ : ∃ W, W = wr.alloc (.cells #[.bool c.add, .slice pa c.t.length pc] 32) := ⟨_, rfl⟩
      have hbW := Lib.hid (show Below wr.heap.size wr W by rw [hW]; exact Seq.way)
      have R0 := Lib.hid (show Row 32 W wr.heap.size [.bool c.add, .slice pa c.t.length pc] by rw [hW]; exact Row.new _ [_, _] _ rfl)
      have hzW : wr.heap.size + 1 ≤ W.heap.size := by rw [hW]; simp
      have HoW := Lib.hid (Ho.out.at hbW.out)
      have HXW := Lib.hid (HX.out.at hbW.out)
      have hbrW := Lib.hid (below_step hbW.out hbr)
      obtain ⟨r0, r1⟩ := R0.out.two
      have HW := Lib.hid hW
      clear hW
      cases ha : c.add
      · have he := Lib.hid (show doE m c = dropE m c.t by unfold doE; rw [ha]; rfl)
        have ho' := Lib.hid (show doO m c = dropO m c.t by unfold doO; rw [ha]; rfl)
        rw [ha] at e0 r0 HW R0
        clear ha
        rw [he.out, ho'.out] at hst
        go_wp2_with fail
        rw [← HW.out]
        refine (DropP_spec HoW.out HXW.out Hr.out).mono ?_
        rintro e w1 ⟨v1, rfl, hb1, hs1⟩
        have hb1W := below_step hb1 hbrW.out
        have hz1 := hb1.size
        have Hs1 := Lib.hid (hs1.mono (T := Fr S w) (fun b h _ => h.elim id fun h => .inr (by omega)) fun _ _ _ => rfl)
        obtain ⟨pa2, pc2, rfl⟩ := hs1.shape
        obtain ⟨q0, q1⟩ := (R0.out.below hb1 (by omega)).two
        have Ho1 := Lib.hid (HoW.out.at hb1)
        have hro := Lib.hid (show dropE m c.t = 0 → RowT (dropO m c.t) from dropO_rowT Hr.out)
        obtain ⟨e, hee⟩ : ∃ e, e = dropE m c.t := ⟨_, rfl⟩
        rw [← hee] at hst hro ⊢
        clear hs1 hee r0 r1
        by_cases hz : e = 0
        · have hst' := Lib.hid (hst.out.trans (if_pos hz))
          subst hz
          go_wp2_with fail
          go_roundw
          case rel => exact ⟨k + 1, hlt, by go_num, by rw [hst'.out]; exact Hs1.out, hb1W⟩
          case measure => simp [intOf]; omega
        · have hst' := Lib.hid (hst.out.trans (if_neg hz))
          have hz' : (e == 0) = false := by simpa using hz
          clear hz
          go_wp2_with fail
          go_roundw
          case rel => exact ⟨k + 1, hlt, by go_num, by rw [hst'.out]; exact Ho1.out, hb1W⟩
          case measure => simp [intOf]; omega
      · have he := Lib.hid (show doE m c = addE m c.t by unfold doE; rw [ha]; rfl)
        have ho' := Lib.hid (show doO m c = addO m c.t by unfold doO; rw [ha]; rfl)
        rw [ha] at e0 r0 HW R0
        clear ha
        rw [he.out, ho'.out] at hst
        go_wp2_with fail
        rw [← HW.out]
        refine (AddP_spec HoW.out HXW.out Hr.out).mono ?_
        rintro e w1 ⟨v1, rfl, hb1, hs1⟩
        have hb1W := below_step hb1 hbrW.out
        have hz1 := hb1.size
        have Hs1 := Lib.hid (hs1.mono (T := Fr S w) (fun b h _ => h.elim id fun h => .inr (by omega)) fun _ _ _ => rfl)
        obtain ⟨pa2, pc2, rfl⟩ := hs1.shape
        obtain ⟨q0, q1⟩ := (R0.out.below hb1 (by omega)).two
        have Ho1 := Lib.hid (HoW.out.at hb1)
        have hro := Lib.hid (show addE m c.t = 0 → RowT (addO m c.t) from addO_rowT Hr.out)
        obtain ⟨e, hee⟩ : ∃ e, e = addE m c.t := ⟨_, rfl⟩
        rw [← hee] at hst hro ⊢
        clear hs1 hee r0 r1
        by_cases hz : e = 0
        · have hst' := Lib.hid (hst.out.trans (if_pos hz))
          subst hz
          go_wp2_with fail
          go_roundw
          case rel => exact ⟨k + 1, hlt, by go_num, by rw [hst'.out]; exact Hs1.out, hb1W⟩
          case measure => simp [intOf]; omega
        · have hst' := Lib.hid (hst.out.trans (if_neg hz))
          have hz' : (e == 0) = false := by simpa using hz
          clear hz
          go_wp2_with fail
          refine (goC_spec (w := w1)).mono ?_
          rintro e w2 ⟨rfl, rfl⟩
          go_wp2_with fail
          go_roundw
          case rel => exact ⟨k + 1, hlt, by go_num, by rw [hst'.out]; exact Ho1.out, hb1W⟩
          case measure => simp [intOf]; omega
    · obtain rfl : k = todo.length := by omega
      rw [List.take_length] at Ho ⊢
      go_wp2_with fail
      go_ret
      exact ⟨_, rfl, hbr, Ho.out⟩

set_option maxHeartbeats 1600000 in
theorem NowP_spec {S : Nat → Prop} {w : World} {v : Value} {b : Bas} (hb : BasV S w v b) (hrow : RowT b.facts) :
    Calls Try.prog 25 #[v] w (Ret (fun o w' => Seq (seqE cellE) (Fr S w) w' o (nowL b.facts b.todo)) w) := by
  obtain ⟨fa, fc, ta, tc, rfl, h1, h2, h3⟩ := hb.bnd
  have H2 := Lib.hid h2
  have H3 := Lib.hid h3
  have Hrow := Lib.hid hrow
  clear h2 h3 hrow hb
  go_enter Try.func25, Try.ntmps25
  go_wp2_with fail
  refine (doN_spec (H2.out.at Seq.way) (H3.out.at Seq.way) Hrow.out).mono ?_
  rintro e w1 ⟨v1, rfl, hb1, hs1⟩
  have hb1' := below_step hb1 (Seq.way : Below w.heap.size w _)
  have Hs1 := Lib.hid (hs1.mono (T := Fr S w) (fun b h _ => h.elim (fun h => .inl h.1) fun h => .inr (by simp at h; omega)) fun _ _ _ => rfl)
  obtain ⟨pa2, pc2, rfl⟩ := hs1.shape
  clear hs1
  go_wp2_with fail
  go_ret
  exact ⟨_, rfl, hb1', Hs1.out⟩
end Go.Proofs.Yteefdmpaclnaiaa
