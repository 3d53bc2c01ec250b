/-
  Layer 13: what is done to the facts, up to what fails (program).
-/
import Derived.Test.YteefdmpaclnaiaaTnJ
namespace Go.Proofs.Yteefdmpaclnaiaa
open Go Go.RowKit
theorem stopC_spec {w : World} {pb : Nat} {x : Bool} (h : Row 4 w pb [.bool x]) : Calls Try.prog 44 #[.pointer (some ⟨pb, 0, none⟩)] w (PureV (.bool false) (w.setCell ⟨pb, 0, none⟩ (.bool true))) := by
  have c0 := h.cell (j := 0) (by simp)
  have f0 := h.frozen 0
  simp only [List.getElem_cons_zero] at c0
  clear h
  go_enter Try.func44, Try.ntmps44
  go_wp2_with fail
  go_ret
  exact ⟨rfl, rfl⟩
set_option maxHeartbeats 4000000 in
set_option maxRecDepth 100000 in
theorem doC_spec {S : Nat → Prop} {w : World} {v u : Value} {l : List (List Cell)} {todo : List Chg} {pb : Nat} (hl : Seq (seqE cellE) S w v l) (ht : Seq changeE S w u todo) (hrow : RowT l) (hpb : Row 4 w pb [.bool false]) (hS : ∀ b, S b → b < pb) :
    Calls Try.prog 43 #[v, u, .func (.func 44) #[] #[.pointer (some ⟨pb, 0, none⟩)]] w (fun e w' => ∃ o m, e = .returned o ∧ Below pb w w' ∧ Row 4 w' pb [.bool (fullL l todo)] ∧ Seq (seqE cellE) (Fr S w) w' o m ∧ RowT m ∧ (fullL l todo = false → m = nowL l todo)) := by
  have H0 := Lib.hid ((hl.bnd.mono (T := Fr S w) (fun b h _ => .inl h.1) fun _ _ _ => rfl))
  obtain ⟨la, lc, rfl, -⟩ := hl
  obtain ⟨ta, tc, rfl, -, -, hal, -, h5⟩ := ht.bnd
  have Hrow := Lib.hid hrow
  clear hrow ht
  have HS := Lib.hid hS
  have hpl := hpb.lt
  have HP := Lib.hid hpb
  clear hpb hS
  go_enter Try.func43, Try.ntmps43
  go_wp2_with fail
  go_loopw [0, 14] (fun o i wr => ∃ k : Nat, k ≤ todo.length ∧ i = .int .i64 k ∧ Hid (fullL l (todo.take k) = false) ∧ Seq (seqE cellE) (Fr S w) wr o (nowL l (todo.take k)) ∧ Below w.heap.size w wr) (fun _ i _ => todo.length - (intOf i).toNat)
  case atStart => exact ⟨0, Nat.zero_le _, rfl, Lib.hid rfl, H0.out, Below.refl _ _⟩
  case round =>
    obtain ⟨k, hk, rfl, hnf, ho, hbr⟩ := hrel
    have hzr := hbr.size
    have Ho := Lib.hid ho
    obtain ⟨oa, oc, rfl⟩ := ho.shape
    by_cases hlt : k < todo.length
    · obtain ⟨b1, o1, pa, pc, rfl, -, hbl, e0, e1, hX⟩ := (h5.below hbr fun _ h _ => h.2).chg hlt
      have hst := Lib.hid (show nowL l (todo.take (k + 1)) = if doE (nowL l (todo.take k)) todo[k] = 0 then doO (nowL l (todo.take k)) todo[k] else nowL l (todo.take k) by
        rw [List.take_succ_eq_append_getElem hlt, nowL_snoc])
      have hfu := Lib.hid (show fullL l (todo.take (k + 1)) = (todo[k].add && !decide (doE (nowL l (todo.take k)) todo[k] = 0)) by
        rw [List.take_succ_eq_append_getElem hlt, fullL_snoc, hnf.out, Bool.false_or])
      have hpre := Lib.hid (show fullL l (todo.take (k + 1)) = true → fullL l todo = true from fun h => by
        have := fullL_pre (s := todo.drop (k + 1)) h
        rwa [List.take_append_drop] at this)
      have Hr := Lib.hid (nowL_rowT (todo := todo.take k) Hrow.out)
      obtain ⟨m, hm⟩ : ∃ m, m = nowL l (todo.take k) := ⟨_, rfl⟩
      rw [← hm] at hst Ho Hr hfu ⊢
      obtain ⟨c, hc⟩ : ∃ c, c = todo[k] := ⟨_, rfl⟩
      rw [← hc] at hst e0 e1 hX hfu
      have HX := Lib.hid hX
      clear hm hc hX h5 ho hnf
      have hkl : (k : Int) < (todo.length : Int) := by omega
      have hk0 : (0 : Int) ≤ (k : Int) := by omega
      obtain ⟨W, hW⟩ : ∃ W, W = wr.alloc (.cells #[.bool c.add, .slice pa c.t.length pc] 32) := ⟨_, rfl⟩
      have hbW := Lib.hid (show Below wr.heap.size wr W by rw [hW]; exact Seq.way)
      have R0 := Lib.hid (show Row 32 W wr.heap.size [.bool c.add, .slice pa c.t.length pc] by rw [hW]; exact Row.new _ [_, _] _ rfl)
      have hzW : wr.heap.size + 1 ≤ W.heap.size := by rw [hW]; simp
      have HoW := Lib.hid (Ho.out.at hbW.out)
      have HXW := Lib.hid (HX.out.at hbW.out)
      have hbrW := Lib.hid (below_step hbW.out hbr)
      obtain ⟨r0, r1⟩ := R0.out.two
      have HW := Lib.hid hW
      clear hW
      cases ha : c.add
      · have he := Lib.hid (show doE m c = dropE m c.t by unfold doE; rw [ha]; rfl)
        have ho' := Lib.hid (show doO m c = dropO m c.t by unfold doO; rw [ha]; rfl)
        rw [ha] at e0 r0 HW R0 hfu
        clear ha
        rw [he.out, ho'.out] at hst
        rw [he.out] at hfu
        go_wp2_with fail
        rw [← HW.out]
        refine (DropP_spec HoW.out HXW.out Hr.out).mono ?_
        rintro e w1 ⟨v1, rfl, hb1, hs1⟩
        have hb1W := below_step hb1 hbrW.out
        have hz1 := hb1.size
        have Hs1 := Lib.hid (hs1.mono (T := Fr S w) (fun b h _ => h.elim id fun h => .inr (by omega)) fun _ _ _ => rfl)
        obtain ⟨pa2, pc2, rfl⟩ := hs1.shape
        obtain ⟨q0, q1⟩ := (R0.out.below hb1 (by omega)).two
        have Ho1 := Lib.hid (HoW.out.at hb1)
        have hro := Lib.hid (show dropE m c.t = 0 → RowT (dropO m c.t) from dropO_rowT Hr.out)
        obtain ⟨e, hee⟩ : ∃ e, e = dropE m c.t := ⟨_, rfl⟩
        rw [← hee] at hst hro hfu ⊢
        clear hs1 hee r0 r1
        by_cases hz : e = 0
        · have hst' := Lib.hid (hst.out.trans (if_pos hz))
          have hfu' := Lib.hid (show fullL l (todo.take (k + 1)) = false by rw [hfu.out, hz]; simp)
          subst hz
          go_wp2_with fail
          go_roundw
          case rel => exact ⟨k + 1, hlt, by go_num, hfu', by rw [hst'.out]; exact Hs1.out, hb1W⟩
          case measure => simp [intOf]; omega
        · have hst' := Lib.hid (hst.out.trans (if_neg hz))
          have hfu' := Lib.hid (show fullL l (todo.take (k + 1)) = false by rw [hfu.out]; simp)
          have hz' : (e == 0) = false := by simpa using hz
          clear hz
          go_wp2_with fail
          go_roundw
          case rel => exact ⟨k + 1, hlt, by go_num, hfu', by rw [hst'.out]; exact Ho1.out, hb1W⟩
          case measure => simp [intOf]; omega
      · have he := Lib.hid (show doE m c = addE m c.t by unfold doE; rw [ha]; rfl)
        have ho' := Lib.hid (show doO m c = addO m c.t by unfold doO; rw [ha]; rfl)
        rw [ha] at e0 r0 HW R0 hfu
        clear ha
        rw [he.out, ho'.out] at hst
        rw [he.out] at hfu
        go_wp2_with fail
        rw [← HW.out]
        refine (AddP_spec HoW.out HXW.out Hr.out).mono ?_
        rintro e w1 ⟨v1, rfl, hb1, hs1⟩
        have hb1W := below_step hb1 hbrW.out
        have hz1 := hb1.size
        have Hs1 := Lib.hid (hs1.mono (T := Fr S w) (fun b h _ => h.elim id fun h => .inr (by omega)) fun _ _ _ => rfl)
        obtain ⟨pa2, pc2, rfl⟩ := hs1.shape
        obtain ⟨q0, q1⟩ := (R0.out.below hb1 (by omega)).two
        have Ho1 := Lib.hid (HoW.out.at hb1)
        have hro := Lib.hid (show addE m c.t = 0 → RowT (addO m c.t) from addO_rowT Hr.out)
        obtain ⟨e, hee⟩ : ∃ e, e = addE m c.t := ⟨_, rfl⟩
        rw [← hee] at hst hro hfu ⊢
        clear hs1 hee r0 r1
        by_cases hz : e = 0
        · have hst' := Lib.hid (hst.out.trans (if_pos hz))
          have hfu' := Lib.hid (show fullL l (todo.take (k + 1)) = false by rw [hfu.out, hz]; simp)
          subst hz
          go_wp2_with fail
          go_roundw
          case rel => exact ⟨k + 1, hlt, by go_num, hfu', by rw [hst'.out]; exact Hs1.out, hb1W⟩
          case measure => simp [intOf]; omega
        · have hst' := Lib.hid (hst.out.trans (if_neg hz))
          have hfu' := Lib.hid (show fullL l todo = true from hpre.out (by rw [hfu.out]; simp [hz]))
          have HP1 := Lib.hid (HP.out.below hb1W hpl)
          have hz' : (e == 0) = false := by simpa using hz
          clear hz
          go_wp2_with fail
          refine (stopC_spec HP1.out).mono ?_
          rintro e w2 ⟨rfl, rfl⟩
          have hbp := Lib.hid (show Below pb w (w1.setCell ⟨pb, 0, none⟩ (.bool true)) from (show Below pb w w1 from hb1W.mono (by omega)).setCell (Nat.le_refl _) _)
          have HP2 := Lib.hid (show Row 4 (w1.setCell ⟨pb, 0, none⟩ (.bool true)) pb [.bool true] from HP1.out.set 0 (.bool true))
          have Ho2 := Lib.hid (show Seq (seqE cellE) (Fr S w) (w1.setCell ⟨pb, 0, none⟩ (.bool true)) (.slice oa m.length oc) m from Ho1.out.mono (fun _ h _ => h) fun b h _ => Below.heap_setCell _ _ _ _ (fun e => by
            have e' : b = pb := e
            exact h.elim (fun h => absurd (HS.out b h) (by omega)) fun h => by omega))
          go_wp2_with fail
          go_ret
          exact ⟨_, m, rfl, hbp.out, by rw [hfu'.out]; exact HP2.out, Ho2.out, Hr.out, fun h => by rw [hfu'.out] at h; exact absurd h (by simp)⟩
    · obtain rfl : k = todo.length := by omega
      rw [List.take_length] at Ho hnf ⊢
      have Hr := Lib.hid (nowL_rowT (todo := todo) Hrow.out)
      have hfn := Lib.hid hnf.out
      obtain ⟨m, hm⟩ : ∃ m, m = nowL l todo := ⟨_, rfl⟩
      rw [← hm] at Ho Hr ⊢
      have Hm := Lib.hid hm
      clear ho hm h5 hnf
      go_wp2_with fail
      go_ret
      exact ⟨_, m, rfl, hbr.mono (by omega), by rw [hfn.out]; exact HP.out.below hbr hpl, Ho.out, Hr.out, fun _ => Hm.out⟩
end Go.Proofs.Yteefdmpaclnaiaa
