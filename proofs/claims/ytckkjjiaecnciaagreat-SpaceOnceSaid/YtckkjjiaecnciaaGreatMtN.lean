/-
  R03: rising.
-/
import Derived.Test.YtckkjjiaecnciaaGreatMtF
import Derived.Deep.Cut
import Derived.BigQuiet
import Derived.Deep.CutRange
import Derived.Deep.DeepCutAuto
namespace Go.Proofs.YtckkjjiaecnciaaGreat
open Go Go.RowKit

/-! ### rising -/
theorem own_intF {S : Nat → Prop} {base : Nat} {e : TypeId} {w : World} {v : Value} {xs : List Int} (h : Own intE S base e w v xs) : Own intE (fun _ => False) base e w v xs := by
  obtain ⟨vs, h1, h2⟩ := h
  refine ⟨vs, h1, fun k x hx => ?_⟩
  obtain ⟨cs, ⟨rfl, h3⟩, h4⟩ := h2 k x hx
  exact ⟨_, ⟨rfl, h3⟩, h4⟩
theorem wp_at {P : Program} {c : Code} {Q : Exit → Act → World → Prop} {a : Act} {w0 w : World} (hd : Drew w0 w) (h : ∀ W, Drew w0 W → c.wp P Q a W) : c.wp P Q a w := h w hd
theorem infoIntM2 : (Tryz.prog.info? 3).map (fun i => (i.zero, i.size, i.bytes)) = some (some (.int .i64 0), 1, 8) := by kernel_rfl
set_option maxHeartbeats 40000000 in
set_option maxRecDepth 100000 in
theorem RisingR3_spec {S : Nat → Prop} {w : World} {v : Value} {t : List Cell} (ht : Seq cellE S w v t) (hlen : t.length ≤ 100000) :
    Calls Tryz.prog 78 #[v] w (Ret (fun r w' => ∃ l : List Int, Seq intE (fun b => w.heap.size ≤ b) w' r l ∧ l.length ≤ t.length ∧ ∀ n ∈ l, n ∈ varsL t) w) := by
  obtain ⟨ao, cap, rfl, h1, h2, h3, h4, h5⟩ := ht
  have htf := fun {w' : World} (h : Below w.heap.size w w') => Lib.hid (h5.below h fun _ _ h => h : SeqAt cellE S w' ao t)
  clear h5
  go_enter Tryz.func78, Tryz.ntmps78
  go_wp2_with fail
  go_loopw [3, 4] (fun o i wr => ∃ (k : Nat) (l : List Int), k ≤ t.length ∧ i = .int .i64 k ∧ l.length ≤ k ∧ Hid (∀ n ∈ l, n ∈ varsL t) ∧ Hid (Seq intE (fun b => w.heap.size ≤ b) wr o l) ∧ Hid (Below w.heap.size w wr)) (fun _ i _ => t.length - (intOf i).toNat)
  case atStart =>
    exact ⟨0, [], Nat.zero_le _, rfl, Nat.le_refl _, Lib.hid (by simp), Lib.hid ((Own.lit0 (E := intE) (S := fun _ => False) rfl (Nat.le_refl _) rfl).seq (by simp) fun b _ h => h.elim False.elim id), Lib.hid Seq.way⟩
  case round =>
    obtain ⟨k, l, hk, rfl, hll, hmem, hO, hbr⟩ := hrel
    have hzr := hbr.out.size
    by_cases hlt : k < t.length
    · obtain ⟨b, off, rfl, -, hb, c0, c1, c2, ok0, ok2, -⟩ := (htf hbr.out).out.cell hlt
      have hmk := Lib.hid (show t[k].kind = 1 → t[k].n ∈ varsL t from fun h => varsL_mem.2 ⟨_, List.getElem_mem hlt, h, rfl⟩)
      obtain ⟨c, hc⟩ : ∃ c, c = t[k] := ⟨_, rfl⟩
      rw [← hc] at c0 c1 c2 ok0 ok2 hmk
      clear hc c1 htf
      have hkl : (k : Int) < (t.length : Int) := by omega
      have hk0 : (0 : Int) ≤ (k : Int) := by omega
      obtain ⟨la, lc, rfl, hlc, hlm, hlq, hln, l5⟩ := hO.out
      go_wp2_with fail
      go_loopw [5] (fun i wx => ∃ q : Nat, q ≤ l.length ∧ i = .int .i64 q ∧ Drew wr wx) (fun i _ => l.length - (intOf i).toNat)
      case atStart => exact ⟨0, Nat.zero_le _, rfl, Drew.refl _⟩
      case round =>
        obtain ⟨q, hq, rfl, nq, rfl⟩ := hrel
        by_cases hql : q < l.length
        · obtain ⟨b2, o2, rfl, -, -, d0, -⟩ := l5.int hql
          obtain ⟨x, hx⟩ : ∃ x, x = l[q] := ⟨_, rfl⟩
          rw [← hx] at d0
          have hql' : (q : Int) < (l.length : Int) := by omega
          have hq0 : (0 : Int) ≤ (q : Int) := by omega
          by_cases hxn : x < c.n
          · have hxn' : decide (x < c.n) = true := decide_eq_true hxn
            clear hx
            go_wp2_with fail
            go_quiet (fail)
            go_wp2_with fail
            go_roundw
            case rel => exact ⟨q + 1, hql, by go_num, (by repeat (first | exact Drew.of _ _ | refine Drew.drewN ?_ _))⟩
            case measure => simp [intOf]; omega
          · have hxn' : decide (x < c.n) = false := decide_eq_false hxn
            by_cases hkd : c.kind = 1
            · by_cases hxe : x = c.n
              · have hxe' : (x == c.n) = true := by simp [hxe]
                have hkd' : (c.kind != 1) = false := by simp [hkd]
                rw [hkd] at c0
                clear hxe hx hkd hxn
                clear hmk
                go_wp2_with fail
                go_quiet (fail)
                go_wp2_with fail
                go_quiet (fail)
                go_wp2_with fail
                go_roundw
                case rel => exact ⟨k + 1, l, hlt, by go_num, by omega, hmem, Lib.hid (hO.out.at (by repeat (first | exact Below.refl _ _ | refine below_drewN ?_ _))), Lib.hid (below_step (by repeat (first | exact Below.refl _ _ | refine below_drewN ?_ _)) hbr.out)⟩
                case measure => simp [intOf]; omega
              · have hxe' : (x == c.n) = false := by simp [hxe]
                clear hxe hx hxn
                have hm := Lib.hid (show ∀ n ∈ l.take q ++ [c.n] ++ l.drop q, n ∈ varsL t from fun n hn => by
                  rcases List.mem_append.1 hn with hn | hn
                  · rcases List.mem_append.1 hn with hn | hn
                    · exact hmem.out n (List.mem_of_mem_take hn)
                    · rw [List.mem_singleton] at hn; rw [hn]; exact hmk.out hkd
                  · exact hmem.out n (List.mem_of_mem_drop hn))
                have hkd' : (c.kind != 1) = false := by simp [hkd]
                rw [hkd] at c0
                clear hmk hkd
                go_wp2_with fail
                go_quiet (fail)
                go_wp2_with fail
                go_quiet (fail)
                go_upto_region 9 with fail
                refine wp_at (w0 := wr) (by repeat (first | exact Drew.of _ _ | refine Drew.drewN ?_ _)) fun W hdW => ?_
                have hbW : Below wr.heap.size wr W := hdW.below _
                have hWs : W.heap.size = wr.heap.size := by obtain ⟨m, rfl⟩ := hdW; simp
                clear hdW
                have hlS := (hO.out.at hbW).mono (T := fun b => b < wr.heap.size) (fun b _ h => by omega) fun _ _ _ => rfl
                have h1t := Lib.hid ((hlS.take (j := q) (by omega)).at (Seq.way (w' := W.alloc (.cells #[] 3))))
                have htl : (l.take q).length = q := by rw [List.length_take]; omega
                obtain ⟨T1, hT1⟩ : ∃ T, T = l.take q := ⟨_, rfl⟩
                rw [← hT1] at h1t htl
                go_wp2_with (at_builtin; refine wpList_appL (S := fun _ => True) (wm := W.alloc (.cells #[] 3)) (zs := T1) rfl _ _ 33 rfl Tryz.underlying33 infoIntM2 rfl rfl (Own.lit0 (base := wr.heap.size) hWs.symm (Nat.le_refl _) rfl) (Below.refl _ _) rfl h1t.out (fun b h _ => ⟨trivial, .inl h⟩) rfl (by omega) (by omega) (by simp; omega) ?_)
                intro oa1 oc1 w1 hown1 hk1
                have hb1 : Below wr.heap.size wr w1 := hbW.trans ((Seq.way (B := wr.heap.size) (w := W) (w' := W.alloc (.cells #[] 3))).trans hk1.below)
                have c2' := (hb1.cell (p := ⟨b, off + k * 3 + 2, none⟩) hb).trans c2
                have Hown1 := Lib.hid hown1
                have Hb1 := Lib.hid hb1
                have hz1 := hb1.size
                clear hown1 hk1 hb1 h1t
                go_wp2_with (at_builtin; refine wpList_app_int (S := fun _ => True) (wm := w1) rfl _ _ 33 rfl Tryz.underlying33 infoIntM2 rfl (Hown1.out.move (Below.refl _ _)) rfl (y := c.n) Seq.way ok2 ?_ ?_ ?_ ?_)
                · go_simp
                · (first | omega | (simp; omega))
                · omega
                · intro oa2 oc2 w2 hown2 hk2
                  have hb2 : Below wr.heap.size wr w2 := Hb1.out.trans ((Seq.way (B := wr.heap.size) (w := w1)).trans hk2.below)
                  have hlS2 := Lib.hid ((((hO.out.bnd.mono (T := fun b => b < wr.heap.size) (fun b h _ => h.2) fun _ _ _ => rfl).at hb2).drop (i := q) (by omega) (bo := (some ⟨b2, o2 + q, none⟩)) (by rw [if_neg (by omega)]; simp [intE, Addr.add]) rfl rfl).at (Seq.way (w' := w2)))
                  have hdl : (l.drop q).length = l.length - q := List.length_drop
                  have Hown2 := Lib.hid hown2
                  have Hb2 := Lib.hid hb2
                  have hz2 := hb2.size
                  have hL3 : (T1 ++ [c.n] ++ l.drop q).length = l.length + 1 := by simp [htl, hdl] <;> omega
                  have HL3 := Lib.hid (show l.take q ++ [c.n] ++ l.drop q = T1 ++ [c.n] ++ l.drop q by rw [← hT1])
                  have hT1n : (T1 ++ [c.n]).length = q + 1 := by simp [htl]
                  obtain ⟨T2, hT2⟩ : ∃ T, T = T1 ++ [c.n] := ⟨_, rfl⟩
                  obtain ⟨D3, hD3⟩ : ∃ T, T = l.drop q := ⟨_, rfl⟩
                  obtain ⟨T3, hT3⟩ : ∃ T, T = T2 ++ D3 := ⟨_, rfl⟩
                  have Hm := Lib.hid (show T3 = l.take q ++ [c.n] ++ l.drop q by rw [hT3, hT2, hD3, hT1])
                  have hT3l : T3.length = l.length + 1 := by rw [hT3, hT2, hD3]; exact hL3
                  have Hown2 : Hid (Own intE (fun _ => True) wr.heap.size 3 w2 (.slice oa2 (q + 1) oc2) T2) := Lib.hid (by rw [hT2, hT1]; exact Hown2.out)
                  rw [← hD3] at hlS2 hdl
                  rw [← hT2] at hT1n
                  rw [← hdl] at hlS2
                  have HT3 := Lib.hid hT3
                  clear hown2 hk2 hb2 hT1 hT2 hD3 hT3 hL3 HL3
                  have hlS3 : Hid (Seq intE (fun b => b < wr.heap.size) w2 (.slice (some ⟨b2, o2 + q, none⟩) (l.length - q) (lc - q)) D3) := Lib.hid (by have := hlS2.out; rw [hdl] at this; exact this)
                  go_wp2_with (at_builtin; refine wpList_appL (S := fun _ => True) (wm := w2) (zs := T3) rfl _ _ 33 rfl Tryz.underlying33 infoIntM2 rfl rfl Hown2.out (Below.refl _ _) rfl (hlS3.out) (fun b h _ => ⟨trivial, .inl h⟩) HT3.out (by omega) (by omega) (by omega) ?_)
                  intro oa3 oc3 w3 hown3 hk3
                  have hb3 : Below wr.heap.size wr w3 := Hb2.out.trans hk3.below
                  have Hown3 := Lib.hid hown3
                  have Hb3 := Lib.hid hb3
                  clear hown3 hk3 hb3
                  go_wp2_with fail
                  go_roundw
                  case rel => exact ⟨k + 1, T3, hlt, by go_num, by omega, Lib.hid (by rw [Hm.out]; exact hm.out), Lib.hid (by exact (own_intF Hown3.out).seq (by omega) fun b _ h => h.elim False.elim fun h => by omega), Lib.hid (below_step Hb3.out hbr.out)⟩
                  case measure => simp [intOf]; omega
            · have hkd' : (c.kind != 1) = true := by simp [hkd]
              clear hkd hx hxn
              clear hmk
              go_wp2_with fail
              go_quiet (fail)
              go_wp2_with fail
              go_quiet (fail)
              go_wp2_with fail
              go_roundw
              case rel => exact ⟨k + 1, l, hlt, by go_num, by omega, hmem, Lib.hid (hO.out.at (by repeat (first | exact Below.refl _ _ | refine below_drewN ?_ _))), Lib.hid (below_step (by repeat (first | exact Below.refl _ _ | refine below_drewN ?_ _)) hbr.out)⟩
              case measure => simp [intOf]; omega
        · obtain rfl : q = l.length := by omega
          have hqf : ¬ (l.length : Int) < (l.length : Int) := by omega
          by_cases hkd : c.kind = 1
          · obtain ⟨SB, hif⟩ : ∃ SB, (if lc = l.length then la else la.map (fun x => x.add l.length)) = SB := ⟨_, rfl⟩
            have hm := Lib.hid (show ∀ n ∈ l ++ [c.n] ++ l.drop l.length, n ∈ varsL t from fun n hn => by
              rcases List.mem_append.1 hn with hn | hn
              · rcases List.mem_append.1 hn with hn | hn
                · exact hmem.out n hn
                · rw [List.mem_singleton] at hn; rw [hn]; exact hmk.out hkd
              · exact hmem.out n (List.mem_of_mem_drop hn))
            have hkd' : (c.kind != 1) = false := by simp [hkd]
            rw [hkd] at c0
            clear hmk hkd
            go_wp2_with fail
            go_quiet (fail)
            go_wp2_with fail
            go_quiet (fail)
            go_upto_region 9 with fail
            refine wp_at (w0 := wr) (by repeat (first | exact Drew.of _ _ | refine Drew.drewN ?_ _)) fun W hdW => ?_
            have hbW : Below wr.heap.size wr W := hdW.below _
            have hWs : W.heap.size = wr.heap.size := by obtain ⟨m, rfl⟩ := hdW; simp
            clear hdW
            have hlS := (hO.out.at hbW).mono (T := fun b => b < wr.heap.size) (fun b _ h => by omega) fun _ _ _ => rfl
            have h1t := Lib.hid (hlS.at (Seq.way (w' := W.alloc (.cells #[] 3))))
            have htl : l.length = l.length := rfl
            go_wp2_with (at_builtin; refine wpList_appL (S := fun _ => True) (wm := W.alloc (.cells #[] 3)) (zs := l) rfl _ _ 33 rfl Tryz.underlying33 infoIntM2 rfl rfl (Own.lit0 (base := wr.heap.size) hWs.symm (Nat.le_refl _) rfl) (Below.refl _ _) rfl h1t.out (fun b h _ => ⟨trivial, .inl h⟩) rfl (by omega) (by omega) (by simp; omega) ?_)
            intro oa1 oc1 w1 hown1 hk1
            have hb1 : Below wr.heap.size wr w1 := hbW.trans ((Seq.way (B := wr.heap.size) (w := W) (w' := W.alloc (.cells #[] 3))).trans hk1.below)
            have c2' := (hb1.cell (p := ⟨b, off + k * 3 + 2, none⟩) hb).trans c2
            have Hown1 := Lib.hid hown1
            have Hb1 := Lib.hid hb1
            have hz1 := hb1.size
            clear hown1 hk1 hb1 h1t
            go_wp2_with (at_builtin; refine wpList_app_int (S := fun _ => True) (wm := w1) rfl _ _ 33 rfl Tryz.underlying33 infoIntM2 rfl (Hown1.out.move (Below.refl _ _)) rfl (y := c.n) Seq.way ok2 ?_ ?_ ?_ ?_)
            · go_simp
            · (first | omega | (simp; omega))
            · omega
            · intro oa2 oc2 w2 hown2 hk2
              have hb2 : Below wr.heap.size wr w2 := Hb1.out.trans ((Seq.way (B := wr.heap.size) (w := w1)).trans hk2.below)
              have hlS2 := Lib.hid ((((hO.out.bnd.mono (T := fun b => b < wr.heap.size) (fun b h _ => h.2) fun _ _ _ => rfl).at hb2).drop (i := l.length) (by omega) (bo := SB) (hif.symm.trans (by simp [intE])) rfl rfl).at (Seq.way (w' := w2)))
              have hdl : (l.drop l.length).length = l.length - l.length := List.length_drop
              have Hown2 := Lib.hid hown2
              have Hb2 := Lib.hid hb2
              have hz2 := hb2.size
              have hL3 : (l ++ [c.n] ++ l.drop l.length).length = l.length + 1 := by simp <;> omega
              have HL3 := Lib.hid (show l ++ [c.n] ++ l.drop l.length = l ++ [c.n] ++ l.drop l.length by rfl)
              have hln : (l ++ [c.n]).length = l.length + 1 := by simp
              obtain ⟨T2, hT2⟩ : ∃ T, T = l ++ [c.n] := ⟨_, rfl⟩
              obtain ⟨D3, hD3⟩ : ∃ T, T = l.drop l.length := ⟨_, rfl⟩
              obtain ⟨T3, hT3⟩ : ∃ T, T = T2 ++ D3 := ⟨_, rfl⟩
              have Hm := Lib.hid (show T3 = l ++ [c.n] ++ l.drop l.length by rw [hT3, hT2, hD3])
              have hT3l : T3.length = l.length + 1 := by rw [hT3, hT2, hD3]; exact hL3
              have Hown2 : Hid (Own intE (fun _ => True) wr.heap.size 3 w2 (.slice oa2 (l.length + 1) oc2) T2) := Lib.hid (by rw [hT2]; exact Hown2.out)
              rw [← hD3] at hlS2 hdl
              rw [← hT2] at hln
              rw [← hdl] at hlS2
              have HT3 := Lib.hid hT3
              clear hown2 hk2 hb2 hT2 hD3 hT3 hL3 HL3
              have hlS3 : Hid (Seq intE (fun b => b < wr.heap.size) w2 (.slice SB 0 (lc - l.length)) D3) := Lib.hid (by have := hlS2.out; rw [hdl, Nat.sub_self] at this; exact this)
              go_wp2_with (at_builtin; refine wpList_appL (S := fun _ => True) (wm := w2) (zs := T3) rfl _ _ 33 rfl Tryz.underlying33 infoIntM2 rfl rfl Hown2.out (Below.refl _ _) rfl (hlS3.out) (fun b h _ => ⟨trivial, .inl h⟩) HT3.out (by omega) (by omega) (by omega) ?_)
              intro oa3 oc3 w3 hown3 hk3
              have hb3 : Below wr.heap.size wr w3 := Hb2.out.trans hk3.below
              have Hown3 := Lib.hid hown3
              have Hb3 := Lib.hid hb3
              clear hown3 hk3 hb3
              go_wp2_with fail
              go_roundw
              case rel => exact ⟨k + 1, T3, hlt, by go_num, by omega, Lib.hid (by rw [Hm.out]; exact hm.out), Lib.hid (by exact (own_intF Hown3.out).seq (by omega) fun b _ h => h.elim False.elim fun h => by omega), Lib.hid (below_step Hb3.out hbr.out)⟩
              case measure => simp [intOf]; omega
          · have hkd' : (c.kind != 1) = true := by simp [hkd]
            clear hkd
            clear hmk
            go_wp2_with fail
            go_quiet (fail)
            go_wp2_with fail
            go_quiet (fail)
            go_wp2_with fail
            go_roundw
            case rel => exact ⟨k + 1, l, hlt, by go_num, by omega, hmem, Lib.hid (hO.out.at (by repeat (first | exact Below.refl _ _ | refine below_drewN ?_ _))), Lib.hid (below_step (by repeat (first | exact Below.refl _ _ | refine below_drewN ?_ _)) hbr.out)⟩
            case measure => simp [intOf]; omega
    · obtain rfl : k = t.length := by omega
      go_wp2_with fail
      go_ret
      exact ⟨_, rfl, hbr.out, l, hO.out, hll, hmem.out⟩
end Go.Proofs.YtckkjjiaecnciaaGreat
