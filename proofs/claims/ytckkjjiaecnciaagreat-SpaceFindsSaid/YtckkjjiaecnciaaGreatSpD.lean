/-
  Layer 14, the document: Rise.
-/
import Derived.Test.YtckkjjiaecnciaaGreatSpC
import Derived.Deep.CutBlock
import Derived.Deep.DeepCutAuto
namespace Go.Proofs.YtckkjjiaecnciaaGreat
open Go Go.RowKit

theorem compare_right {S T : Nat → Prop} {w : World} {v u : Value} {a b : List Cell} (ra : RightT a) (rb : RightT b) (ha : Seq cellE S w v a) (hb : Seq cellE T w u b) : Calls Tryz.prog 29 #[v, u] w (RetV (.int .i64 (cmpT a b)) w) := by
  rw [← cmpR_eq ra.2 rb.2]; exact CompareR_spec ha hb
set_option maxHeartbeats 12800000 in
set_option maxRecDepth 100000 in
theorem RiseR_spec {S : Nat → Prop} {w : World} {v : Value} {l : List (List Cell)} (hl : Seq (seqE cellE) S w v l) (hr : ∀ t ∈ l, RightT t) (hn : l.Nodup) (hlen : l.length ≤ 1000) :
    Calls Tryz.prog 45 #[v] w (Ret (fun r w' => Seq (seqE cellE) (Fr S w) w' r (setL cmpT l)) w) := by
  have HL := Lib.hid hl.bnd
  obtain ⟨la, lc, rfl⟩ := hl.shape
  have HR := Lib.hid hr
  have HN := Lib.hid hn
  clear hl hr hn
  go_enter Tryz.func45, Tryz.ntmps45
  go_wp2_with fail
  go_loopw [3, 4] (fun o i wr => ∃ k : Nat, k ≤ l.length ∧ i = .int .i64 k ∧ Hid (∃ g c, o = .slice (some ⟨g, 0, none⟩) (setL cmpT (l.take k)).length c) ∧ Hid (Seq (seqE cellE) (fun b => (S b ∧ b < w.heap.size) ∨ w.heap.size ≤ b) wr o (setL cmpT (l.take k))) ∧ Hid (Below w.heap.size w wr)) (fun _ i _ => l.length - (intOf i).toNat)
  case atStart => exact ⟨0, Nat.zero_le _, rfl, Lib.hid ⟨_, _, rfl⟩, Lib.hid ((Own.lit0 (E := seqE cellE) (S := fun _ => False) (base := w.heap.size) (e := 23) rfl (Nat.le_refl _) rfl).seq (by simp) fun b _ h => .inr (h.elim False.elim id)), Lib.hid Seq.way⟩
  case round =>
    obtain ⟨k, hk, rfl, hsh, hO, hbr⟩ := hrel
    have hOl := setL_le (c := cmpT) (l.take k)
    rw [List.length_take] at hOl
    by_cases hlt : k < l.length
    · have HLr := Lib.hid (HL.out.at hbr.out)
      have hz0 := hbr.out.size
      obtain ⟨_, _, ee, -, -, -, -, x5⟩ := HLr.out
      simp only [Value.slice.injEq, true_and] at ee
      obtain ⟨rfl, rfl⟩ := ee
      obtain ⟨b, off, p1, n1, rfl, hSb, lb, c0, hX⟩ := x5.seq hlt
      have hnew := Lib.hid (show l[k] ∉ setL cmpT (l.take k) from fun h => by
        have h2 := (mem_setL cmpT_cmp).1 h
        obtain ⟨j, hj, e⟩ := List.mem_iff_getElem.1 h2
        rw [List.length_take] at hj
        rw [List.getElem_take] at e
        have := nodup_inj HN.out (by omega) hlt e
        omega)
      have hst := Lib.hid (show setL cmpT (l.take (k + 1)) = insC cmpT l[k] (setL cmpT (l.take k)) by rw [List.take_succ_eq_append_getElem hlt, setL_snoc])
      have hOr := Lib.hid (fun t (h : t ∈ setL cmpT (l.take k)) => HR.out t (List.mem_of_mem_take ((mem_setL cmpT_cmp).1 h)))
      have hxr := Lib.hid (HR.out _ (List.getElem_mem hlt))
      have hOs := Lib.hid (setL_srt cmpT_cmp (l.take k))
      obtain ⟨O, hOe⟩ : ∃ O, O = setL cmpT (l.take k) := ⟨_, rfl⟩
      rw [← hOe] at hO hOl hnew hst hOr hOs hsh
      obtain ⟨x, hx⟩ : ∃ x, x = l[k] := ⟨_, rfl⟩
      rw [← hx] at c0 hX hnew hst hxr
      have HX := Lib.hid hX
      have hkI : (k : Int) < (l.length : Int) := by omega
      have hk0 : (0 : Int) ≤ (k : Int) := by omega
      obtain ⟨g, oc, rfl⟩ := hsh.out
      obtain ⟨wo, rfl⟩ : ∃ wo, wo = wr := ⟨_, rfl⟩
      clear hx hX x5 hOe
      go_upto_block 2 with fail
      go_cut [5] (fun o wc => ∃ j : Nat, o = .int .i64 j ∧ j ≤ O.length ∧ Hid (insC cmpT x O = (O.take j ++ [x]) ++ O.drop j) ∧ Hid (Below wo.heap.size wo wc))
      case first =>
        go_wp2_with fail
        go_loopw [5] (fun o wz => ∃ j : Nat, o = .int .i64 j ∧ j ≤ O.length ∧ Hid (∀ i (hi : i < O.length), i < j → cmpT O[i] x < 0) ∧ Hid (Below wo.heap.size wo wz)) (fun o _ => O.length - (intOf o).toNat)
        case atStart => exact ⟨0, rfl, Nat.zero_le _, Lib.hid (fun i _ h => absurd h (Nat.not_lt_zero _)), Lib.hid (by first | exact Below.refl _ _ | exact Seq.way)⟩
        case round =>
          obtain ⟨j, rfl, hj, hall, hbz⟩ := hrel
          have c1 := (hbz.out.cell (p := ⟨b, off + k, none⟩) lb).trans c0
          have lb1 := Nat.lt_of_lt_of_le lb hbz.out.size
          by_cases hjl : j < O.length
          · obtain ⟨_, _, ee, -, -, -, -, x6⟩ := hO.out.at hbz.out
            simp only [Value.slice.injEq, true_and] at ee
            obtain ⟨rfl, rfl⟩ := ee
            obtain ⟨b2, off2, p2, n2, e6, -, lb2, d0, hY⟩ := x6.seq hjl
            simp only [Option.some.injEq, Addr.mk.injEq, and_true] at e6
            obtain ⟨rfl, rfl⟩ := e6
            simp only [Nat.zero_add] at d0
            have hne := Lib.hid (show cmpT O[j] x ≠ 0 from fun e => hnew.out (by rw [← cmpT_zero.1 e]; exact List.getElem_mem hjl))
            have hyr := Lib.hid (hOr.out _ (List.getElem_mem hjl))
            have hgo := Lib.hid (show cmpT O[j] x < 0 → ∀ i (hi : i < O.length), i < j + 1 → cmpT O[i] x < 0 from fun h i hi hij => by
              rcases Nat.lt_or_ge i j with h1 | h1
              · exact hall.out i hi h1
              · obtain rfl : i = j := by omega
                exact h)
            have hend := Lib.hid (show ¬ cmpT O[j] x < 0 → insC cmpT x O = (O.take j ++ [x]) ++ O.drop j from fun h => by
              have e := lowB_first (c := cmpT) (x := x) (l := O) (k := j) hj hall.out fun _ => h
              rw [insB_new cmpT_cmp hnew.out, e])
            obtain ⟨y, hy⟩ : ∃ y, y = O[j] := ⟨_, rfl⟩
            rw [← hy] at d0 hY hne hyr hgo hend
            have HY := Lib.hid hY
            obtain ⟨z, hz⟩ : ∃ z, z = cmpT y x := ⟨_, rfl⟩
            have CC := Lib.hid (fun (W : World) (h : Below wr.heap.size wr W) => hz ▸ compare_right (w := W) hyr.out hxr.out (HY.out.at h) ((HX.out.at hbz.out).at h))
            rw [← hz] at hne hgo hend
            have hjI : (j : Int) < (O.length : Int) := by omega
            have hj0 : (0 : Int) ≤ (j : Int) := by omega
            obtain ⟨wy, rfl⟩ : ∃ wy, wy = wr := ⟨_, rfl⟩
            clear hy hY x6 hz c0 hall
            go_upto_region 6 with fail
            have Hkeep := fun {Wk : World} (hW : Below wy.heap.size wy Wk) => Lib.hid (show Wk.cell? ⟨g, j, none⟩ = some (.slice p2 y.length n2) ∧ Wk.cell? ⟨b, off + k, none⟩ = some (.slice p1 x.length n1) from ⟨(hW.cell (p := ⟨g, j, none⟩) lb2).trans d0, (hW.cell (p := ⟨b, off + k, none⟩) lb1).trans c1⟩)
            (try simp only [List.append_eq, List.cons_append, List.nil_append])
            refine wp_region_noPanic ?_
            refine wp_region_held_drew (S := fun w' => w'.cell? ⟨g, j, none⟩ = some (.slice p2 y.length n2) ∧ w'.cell? ⟨b, off + k, none⟩ = some (.slice p1 x.length n1)) (by kernel_rfl) ?_ (fun hHeld => ?_)
            · exact (Hkeep (Below.drew (Below.refl _ _))).out
            refine wpAnyH_take1 (i := 0) (oi := _) (v := ?_) (by kernel_rfl) rfl (by kernel_rfl) (fun _ _ _ h => h) (Or.inl ⟨by rfl, ?_⟩) (by assumption) ?_
            rotate_left 1
            · intro w hSw; (try dsimp only at hSw); go_simp; (with_reducible rfl)
            (try simp only [Act.put, List.getElem_toArray, List.getElem_cons_zero, List.setIfInBounds_toArray, List.set_cons_zero, List.set_cons_succ])
            refine wpAnyH_take1 (i := 1) (oi := _) (v := ?_) (by kernel_rfl) rfl (by kernel_rfl) (fun _ _ _ h => h) (Or.inl ⟨by rfl, ?_⟩) (by assumption) ?_
            rotate_left 1
            · intro w hSw; (try dsimp only at hSw); go_simp; (with_reducible rfl)
            (try simp only [Act.put, List.getElem_toArray, List.getElem_cons_zero, List.getElem_cons_succ, List.setIfInBounds_toArray, List.set_cons_zero, List.set_cons_succ])
            refine wpAnyH_take1 (i := 2) (oi := _) (v := ?_) (by kernel_rfl) rfl (by kernel_rfl) (fun _ _ _ h => h) (Or.inl ⟨by rfl, ?_⟩) (by assumption) ?_
            rotate_left 1
            · intro w hSw; (try dsimp only at hSw); go_simp; (with_reducible rfl)
            (try simp only [Act.put, List.getElem_toArray, List.getElem_cons_zero, List.getElem_cons_succ, List.setIfInBounds_toArray, List.set_cons_zero, List.set_cons_succ])
            refine wpAnyH_take1 (i := 3) (oi := _) (v := ?_) (by kernel_rfl) rfl (by kernel_rfl) (fun _ _ _ h => h) (Or.inl ⟨by rfl, ?_⟩) (by assumption) ?_
            rotate_left 1
            · intro w hSw; (try dsimp only at hSw); go_simp; (with_reducible rfl)
            (try simp only [Act.put, List.getElem_toArray, List.getElem_cons_zero, List.getElem_cons_succ, List.setIfInBounds_toArray, List.set_cons_zero, List.set_cons_succ])
            refine wpAnyH_take1 (i := 4) (oi := _) (v := ?_) (by kernel_rfl) rfl (by kernel_rfl) (fun _ _ _ h => h) (Or.inl ⟨by rfl, ?_⟩) (by assumption) ?_
            rotate_left 1
            · intro w hSw; (try dsimp only at hSw); go_simp; (with_reducible rfl)
            (try simp only [Act.put, List.getElem_toArray, List.getElem_cons_zero, List.getElem_cons_succ, List.setIfInBounds_toArray, List.set_cons_zero, List.set_cons_succ])
            refine wpAnyH_take1 (i := 5) (oi := _) (v := ?_) (by kernel_rfl) rfl (by kernel_rfl) (fun _ _ _ h => h) (Or.inl ⟨by rfl, ?_⟩) (by assumption) ?_
            rotate_left 1
            · intro w hSw; (try dsimp only at hSw); go_simp; (with_reducible rfl)
            (try simp only [Act.put, List.getElem_toArray, List.getElem_cons_zero, List.getElem_cons_succ, List.setIfInBounds_toArray, List.set_cons_zero, List.set_cons_succ])
            refine wpAnyH_take1 (i := 6) (oi := _) (v := ?_) (by kernel_rfl) rfl (by kernel_rfl) (fun _ _ _ h => h) (Or.inl ⟨by rfl, ?_⟩) (by assumption) ?_
            rotate_left 1
            · intro w hSw; (try dsimp only at hSw); go_simp; (with_reducible rfl)
            (try simp only [Act.put, List.getElem_toArray, List.getElem_cons_zero, List.getElem_cons_succ, List.setIfInBounds_toArray, List.set_cons_zero, List.set_cons_succ])
            refine wpAnyH_take1 (i := 7) (oi := _) (v := ?_) (by kernel_rfl) rfl (by kernel_rfl) (fun _ _ _ h => h) (Or.inl ⟨by rfl, ?_⟩) (by assumption) ?_
            rotate_left 1
            · intro w hSw; (try dsimp only at hSw); go_simp; (with_reducible rfl)
            (try simp only [Act.put, List.getElem_toArray, List.getElem_cons_zero, List.getElem_cons_succ, List.setIfInBounds_toArray, List.set_cons_zero, List.set_cons_succ])
            refine wpAnyH_take1 (i := 8) (oi := _) (v := ?_) (by kernel_rfl) rfl (by kernel_rfl) (fun _ _ _ h => h) (Or.inl ⟨by rfl, ?_⟩) (by assumption) ?_
            rotate_left 1
            · intro w hSw; (try dsimp only at hSw); go_simp; (with_reducible rfl)
            (try simp only [Act.put, List.getElem_toArray, List.getElem_cons_zero, List.getElem_cons_succ, List.setIfInBounds_toArray, List.set_cons_zero, List.set_cons_succ])
            refine wpAnyH_take1 (i := 9) (oi := _) (v := ?_) (by kernel_rfl) rfl (by kernel_rfl) (fun _ _ _ h => h) (Or.inl ⟨by rfl, ?_⟩) (by assumption) ?_
            rotate_left 1
            · intro w hSw; (try dsimp only at hSw); go_simp; (with_reducible rfl)
            (try simp only [Act.put, List.getElem_toArray, List.getElem_cons_zero, List.getElem_cons_succ, List.setIfInBounds_toArray, List.set_cons_zero, List.set_cons_succ])
            refine wpAnyH_take1 (i := 10) (oi := _) (v := ?_) (by kernel_rfl) rfl (by kernel_rfl) (fun _ _ _ h => h) (Or.inl ⟨by rfl, ?_⟩) (by assumption) ?_
            rotate_left 1
            · intro w hSw; (try dsimp only at hSw); go_simp; (with_reducible rfl)
            (try simp only [Act.put, List.getElem_toArray, List.getElem_cons_zero, List.getElem_cons_succ, List.setIfInBounds_toArray, List.set_cons_zero, List.set_cons_succ])
            refine wpAnyH_take1 (i := 11) (oi := _) (v := ?_) (by kernel_rfl) rfl (by kernel_rfl) (fun _ _ _ h => h) (Or.inl ⟨by rfl, ?_⟩) (by assumption) ?_
            rotate_left 1
            · intro w hSw; (try dsimp only at hSw); go_simp; (with_reducible rfl)
            (try simp only [Act.put, List.getElem_toArray, List.getElem_cons_zero, List.getElem_cons_succ, List.setIfInBounds_toArray, List.set_cons_zero, List.set_cons_succ])
            refine wpAnyH_take1 (i := 12) (oi := _) (v := ?_) (by kernel_rfl) rfl (by kernel_rfl) (fun _ _ _ h => h) (Or.inl ⟨by rfl, ?_⟩) (by assumption) ?_
            rotate_left 1
            · intro w hSw; (try dsimp only at hSw); go_simp; (with_reducible rfl)
            (try simp only [Act.put, List.getElem_toArray, List.getElem_cons_zero, List.getElem_cons_succ, List.setIfInBounds_toArray, List.set_cons_zero, List.set_cons_succ])
            refine wpAnyH_one (i := 13) (by kernel_rfl) rfl (by rfl) fun K hK => ?_
            go_simp
            refine ((CC.out _ Seq.way)).mono ?_
            rintro e y1 ⟨rfl, hy1⟩
            have HY1 := below_step hy1 (Seq.way : Below wy.heap.size wy _)
            have zy1 := HY1.size
            (try dsimp only)
            clear hHeld
            refine hK.out _ _ (Hkeep HY1).out fun hHeld => ?_
            clear hK K
            (try simp only [Act.put, List.getElem_toArray, List.getElem_cons_zero, List.getElem_cons_succ, List.setIfInBounds_toArray, List.set_cons_zero, List.set_cons_succ])
            refine wpAnyH_take1 (i := 14) (oi := _) (v := ?_) (by kernel_rfl) rfl (by kernel_rfl) (fun _ _ _ h => h) (Or.inl ⟨by rfl, ?_⟩) (by assumption) ?_
            rotate_left 1
            · intro w hSw; (try dsimp only at hSw); go_simp; (with_reducible rfl)
            (try simp only [Act.put, List.getElem_toArray, List.getElem_cons_zero, List.getElem_cons_succ, List.setIfInBounds_toArray, List.set_cons_zero, List.set_cons_succ])
            refine wpAnyH_take1 (i := 15) (oi := _) (v := ?_) (by kernel_rfl) rfl (by kernel_rfl) (fun _ _ _ h => h) (Or.inl ⟨by rfl, ?_⟩) (by assumption) ?_
            rotate_left 1
            · intro w hSw; (try dsimp only at hSw); go_simp; (with_reducible rfl)
            (try simp only [Act.put, List.getElem_toArray, List.getElem_cons_zero, List.getElem_cons_succ, List.setIfInBounds_toArray, List.set_cons_zero, List.set_cons_succ])
            refine wpAnyH_done (by kernel_rfl) ?_ _
            refine NoPanic.normal ?_
            clear Hkeep zy1 c1 d0
            by_cases hz0 : z < 0
            · have hz1 : z ≤ 0 := by omega
              have hgo2 := Lib.hid (hgo.out hz0)
              clear hgo hend hne
              go_wp2_with fail
              go_roundw
              case rel => exact ⟨j + 1, by go_num, hjl, hgo2, Lib.hid (below_step HY1 hbz.out)⟩
              case measure => simp [intOf]; omega
            · have hz1 : ¬ z ≤ 0 := by have := hne.out; omega
              have hend2 := Lib.hid (hend.out hz0)
              clear hgo hend hne
              go_wp2_with fail
              go_meet
              exact ⟨j, rfl, hj, hend2, Lib.hid (below_step HY1 hbz.out)⟩
          · obtain rfl : j = O.length := by omega
            have hjI : ¬ (O.length : Int) < (O.length : Int) := by omega
            have hend2 := Lib.hid (show insC cmpT x O = (O.take O.length ++ [x]) ++ O.drop O.length by
              have e := lowB_first (c := cmpT) (x := x) (l := O) (k := O.length) (Nat.le_refl _) hall.out fun h => absurd h (Nat.lt_irrefl _)
              rw [insB_new cmpT_cmp hnew.out, e])
            obtain ⟨wy, rfl⟩ : ∃ wy, wy = wr := ⟨_, rfl⟩
            clear c0 hall
            go_upto_region 6 with fail
            have Hkeep := fun {Wk : World} (hW : Below wy.heap.size wy Wk) => Lib.hid (show Wk.cell? ⟨b, off + k, none⟩ = some (.slice p1 x.length n1) from (hW.cell (p := ⟨b, off + k, none⟩) lb1).trans c1)
            (try simp only [List.append_eq, List.cons_append, List.nil_append])
            refine wp_region_noPanic ?_
            refine wp_region_held_drew (S := fun w' => w'.cell? ⟨b, off + k, none⟩ = some (.slice p1 x.length n1)) (by kernel_rfl) ?_ (fun hHeld => ?_)
            · exact (Hkeep (Below.drew (Below.refl _ _))).out
            refine wpAnyH_take1 (i := 0) (oi := _) (v := ?_) (by kernel_rfl) rfl (by kernel_rfl) (fun _ _ _ h => h) (Or.inl ⟨by rfl, ?_⟩) (by assumption) ?_
            rotate_left 1
            · intro w hSw; (try dsimp only at hSw); go_simp; (with_reducible rfl)
            (try simp only [Act.put, List.getElem_toArray, List.getElem_cons_zero, List.setIfInBounds_toArray, List.set_cons_zero, List.set_cons_succ])
            refine wpAnyH_take1 (i := 1) (oi := _) (v := ?_) (by kernel_rfl) rfl (by kernel_rfl) (fun _ _ _ h => h) (Or.inl ⟨by rfl, ?_⟩) (by assumption) ?_
            rotate_left 1
            · intro w hSw; (try dsimp only at hSw); go_simp; (with_reducible rfl)
            (try simp only [Act.put, List.getElem_toArray, List.getElem_cons_zero, List.getElem_cons_succ, List.setIfInBounds_toArray, List.set_cons_zero, List.set_cons_succ])
            refine wpAnyH_take1 (i := 2) (oi := _) (v := ?_) (by kernel_rfl) rfl (by kernel_rfl) (fun _ _ _ h => h) (Or.inl ⟨by rfl, ?_⟩) (by assumption) ?_
            rotate_left 1
            · intro w hSw; (try dsimp only at hSw); go_simp; (with_reducible rfl)
            (try simp only [Act.put, List.getElem_toArray, List.getElem_cons_zero, List.getElem_cons_succ, List.setIfInBounds_toArray, List.set_cons_zero, List.set_cons_succ])
            refine wpAnyH_take1 (i := 3) (oi := _) (v := ?_) (by kernel_rfl) rfl (by kernel_rfl) (fun _ _ _ h => h) (Or.inl ⟨by rfl, ?_⟩) (by assumption) ?_
            rotate_left 1
            · intro w hSw; (try dsimp only at hSw); go_simp; (with_reducible rfl)
            (try simp only [Act.put, List.getElem_toArray, List.getElem_cons_zero, List.getElem_cons_succ, List.setIfInBounds_toArray, List.set_cons_zero, List.set_cons_succ])
            refine wpAnyH_take1 (i := 4) (oi := _) (v := ?_) (by kernel_rfl) rfl (by kernel_rfl) (fun _ _ _ h => h) (Or.inl ⟨by rfl, ?_⟩) (by assumption) ?_
            rotate_left 1
            · intro w hSw; (try dsimp only at hSw); go_simp; (with_reducible rfl)
            (try simp only [Act.put, List.getElem_toArray, List.getElem_cons_zero, List.getElem_cons_succ, List.setIfInBounds_toArray, List.set_cons_zero, List.set_cons_succ])
            refine wpAnyH_take1 (i := 5) (oi := _) (v := undef) (by kernel_rfl) rfl (by kernel_rfl) (fun _ _ _ h => h) (Or.inr ⟨by rfl, rfl⟩) (by assumption) ?_
            (try simp only [Act.put, List.getElem_toArray, List.getElem_cons_zero, List.getElem_cons_succ, List.setIfInBounds_toArray, List.set_cons_zero, List.set_cons_succ])
            refine wpAnyH_take1 (i := 6) (oi := _) (v := undef) (by kernel_rfl) rfl (by kernel_rfl) (fun _ _ _ h => h) (Or.inr ⟨by rfl, rfl⟩) (by assumption) ?_
            (try simp only [Act.put, List.getElem_toArray, List.getElem_cons_zero, List.getElem_cons_succ, List.setIfInBounds_toArray, List.set_cons_zero, List.set_cons_succ])
            refine wpAnyH_take1 (i := 7) (oi := _) (v := undef) (by kernel_rfl) rfl (by kernel_rfl) (fun _ _ _ h => h) (Or.inr ⟨by rfl, rfl⟩) (by assumption) ?_
            (try simp only [Act.put, List.getElem_toArray, List.getElem_cons_zero, List.getElem_cons_succ, List.setIfInBounds_toArray, List.set_cons_zero, List.set_cons_succ])
            refine wpAnyH_take1 (i := 8) (oi := _) (v := undef) (by kernel_rfl) rfl (by kernel_rfl) (fun _ _ _ h => h) (Or.inr ⟨by rfl, rfl⟩) (by assumption) ?_
            (try simp only [Act.put, List.getElem_toArray, List.getElem_cons_zero, List.getElem_cons_succ, List.setIfInBounds_toArray, List.set_cons_zero, List.set_cons_succ])
            refine wpAnyH_take1 (i := 9) (oi := _) (v := undef) (by kernel_rfl) rfl (by kernel_rfl) (fun _ _ _ h => h) (Or.inr ⟨by rfl, rfl⟩) (by assumption) ?_
            (try simp only [Act.put, List.getElem_toArray, List.getElem_cons_zero, List.getElem_cons_succ, List.setIfInBounds_toArray, List.set_cons_zero, List.set_cons_succ])
            refine wpAnyH_take1 (i := 10) (oi := _) (v := undef) (by kernel_rfl) rfl (by kernel_rfl) (fun _ _ _ h => h) (Or.inr ⟨by rfl, rfl⟩) (by assumption) ?_
            (try simp only [Act.put, List.getElem_toArray, List.getElem_cons_zero, List.getElem_cons_succ, List.setIfInBounds_toArray, List.set_cons_zero, List.set_cons_succ])
            refine wpAnyH_take1 (i := 11) (oi := _) (v := undef) (by kernel_rfl) rfl (by kernel_rfl) (fun _ _ _ h => h) (Or.inr ⟨by rfl, rfl⟩) (by assumption) ?_
            (try simp only [Act.put, List.getElem_toArray, List.getElem_cons_zero, List.getElem_cons_succ, List.setIfInBounds_toArray, List.set_cons_zero, List.set_cons_succ])
            refine wpAnyH_take1 (i := 12) (oi := _) (v := undef) (by kernel_rfl) rfl (by kernel_rfl) (fun _ _ _ h => h) (Or.inr ⟨by rfl, rfl⟩) (by assumption) ?_
            (try simp only [Act.put, List.getElem_toArray, List.getElem_cons_zero, List.getElem_cons_succ, List.setIfInBounds_toArray, List.set_cons_zero, List.set_cons_succ])
            refine wpAnyH_take1 (i := 13) (oi := _) (v := undef) (by kernel_rfl) rfl (by kernel_rfl) (fun _ _ _ h => h) (Or.inr ⟨by rfl, rfl⟩) (by assumption) ?_
            (try simp only [Act.put, List.getElem_toArray, List.getElem_cons_zero, List.getElem_cons_succ, List.setIfInBounds_toArray, List.set_cons_zero, List.set_cons_succ])
            refine wpAnyH_take1 (i := 14) (oi := _) (v := undef) (by kernel_rfl) rfl (by kernel_rfl) (fun _ _ _ h => h) (Or.inr ⟨by rfl, rfl⟩) (by assumption) ?_
            (try simp only [Act.put, List.getElem_toArray, List.getElem_cons_zero, List.getElem_cons_succ, List.setIfInBounds_toArray, List.set_cons_zero, List.set_cons_succ])
            refine wpAnyH_take1 (i := 15) (oi := _) (v := ?_) (by kernel_rfl) rfl (by kernel_rfl) (fun _ _ _ h => h) (Or.inl ⟨by rfl, ?_⟩) (by assumption) ?_
            rotate_left 1
            · intro w hSw; (try dsimp only at hSw); go_simp; (with_reducible rfl)
            (try simp only [Act.put, List.getElem_toArray, List.getElem_cons_zero, List.getElem_cons_succ, List.setIfInBounds_toArray, List.set_cons_zero, List.set_cons_succ])
            refine wpAnyH_done (by kernel_rfl) ?_ _
            refine NoPanic.normal ?_
            clear Hkeep c1
            go_wp2_with fail
            go_meet
            exact ⟨O.length, rfl, Nat.le_refl _, hend2, Lib.hid (below_step Seq.way hbz.out)⟩
      case rest =>
        obtain ⟨j, rfl, hj, hins, hbc⟩ := hcut
        have HOc := Lib.hid (hO.out.at hbc.out).bnd
        have HXc := Lib.hid (HX.out.at hbc.out)
        have Bc := Lib.hid (below_step hbc.out hbr.out)
        have hzc := Bc.out.size
        have c1 := (hbc.out.cell (p := ⟨b, off + k, none⟩) lb).trans c0
        have lb1 := Nat.lt_of_lt_of_le lb hbc.out.size
        obtain ⟨_, _, ee, hcap, hcap2, -, -, -⟩ := HOc.out
        simp only [Value.slice.injEq, true_and] at ee
        obtain ⟨rfl, rfl⟩ := ee
        have HT := Lib.hid (HOc.out.take hj)
        obtain ⟨bo, hbo⟩ : ∃ bo, bo = if oc = j then (some ⟨g, 0, none⟩ : Option Addr) else some ⟨g, j, none⟩ := ⟨_, rfl⟩
        have HD := Lib.hid (HOc.out.drop hj (bo := bo) (by rw [hbo]; split <;> simp [Addr.add_lit, seqE]) rfl rfl)
        have hif := hbo.symm
        have hl1 : (O.take j).length = j := by rw [List.length_take]; omega
        have hl2 : (O.drop j).length = O.length - j := List.length_drop
        have hst2 := Lib.hid (show setL cmpT (l.take (k + 1)) = (O.take j ++ [x]) ++ O.drop j by rw [hst.out, hins.out])
        obtain ⟨A, hA⟩ : ∃ A, A = O.take j := ⟨_, rfl⟩
        obtain ⟨D, hD⟩ : ∃ D, D = O.drop j := ⟨_, rfl⟩
        rw [← hA] at HT hl1 hst2
        rw [← hD] at HD hl2 hst2
        have HA2 := Lib.hid HT.out
        have HD2 := Lib.hid HD.out
        have hAl : A.length ≤ 1000 := by omega
        have hDl : D.length ≤ 1000 := by omega
        clear hl1 hl2
        have hj0 : (0 : Int) ≤ (j : Int) := by omega
        have hjc : (j : Int) ≤ (oc : Int) := by omega
        have hjl : (j : Int) ≤ (O.length : Int) := by omega
        have hjt : ((j : Int)).toNat = j := Int.toNat_natCast j
        have hown0 : Own (seqE cellE) (fun b => (S b ∧ b < w.heap.size) ∨ w.heap.size ≤ b) wc.heap.size 23 (wc.alloc (.cells #[] 23)) (.slice (some ⟨wc.heap.size, 0, none⟩) 0 0) [] := Own.lit0 rfl (Nat.le_refl _) rfl
        clear hO HT HD hst hins hbo hA hD hOr hOs hnew hxr HX c0 lb hcap2
        go_wp2_with (at_builtin; refine wpList_appL (wm := wc.alloc (.cells #[] 23)) (zs := A) rfl _ _ 41 rfl Tryz.underlying41 infoSeqB rfl rfl hown0 (Below.refl _ _) rfl (HA2.out.at Seq.way) (fun b h _ => ⟨h.1, .inl h.2⟩) rfl (by omega) (by omega) (by simp) ?_)
        intro ao2 cap2 w2 hown2 hk2
        have H2 := Lib.hid hown2
        have K2 := Lib.hid (Below.trans (Seq.way : Below wc.heap.size wc (wc.alloc (.cells #[] 23))) hk2.below)
        have hz2 := K2.out.size
        have c2 := (K2.out.cell (p := ⟨b, off + k, none⟩) lb1).trans c1
        have lb2 := Nat.lt_of_lt_of_le lb1 hz2
        clear hown2 hown0 hk2 c1
        go_wp2_with (at_builtin; (refine wpList_app_seq (E := cellE) (S := fun b => (S b ∧ b < w.heap.size) ∨ w.heap.size ≤ b) (Sy := fun b => S b ∧ b < w.heap.size) (base := wc.heap.size) (wm := w2) (y := x) rfl _ _ 41 rfl Tryz.underlying41 infoSeqB rfl H2.out rfl Seq.way ((HXc.out.at K2.out).at Seq.way) (fun b h _ => ⟨.inl h, .inl (by have := h.2; omega)⟩) (by go_simp) (by omega) hz2 ?_))
        intro ao3 cap3 w3 hown3 hk3
        have H3 := Lib.hid hown3
        have K3 := Lib.hid (K2.out.trans (Below.trans (Below.mono (Seq.way : Below w2.heap.size w2 _) hz2) hk3.below))
        have hz3 := K3.out.size
        clear hown3 hk3 c2
        go_wp2_with (at_builtin; refine wpList_appL (wm := w3) (zs := (A ++ [x]) ++ D) rfl _ _ 41 rfl Tryz.underlying41 infoSeqB rfl rfl H3.out (by first | exact Below.refl _ _ | exact Seq.way) rfl ((HD2.out.at K3.out).at (by first | exact Below.refl _ _ | exact Seq.way)) (fun b h _ => ⟨h.1, .inl h.2⟩) rfl (by omega) (by simp; omega) hz3 ?_)
        intro ao4 cap4 w4 hown4 hk4
        have H4 := Lib.hid hown4
        have K4 := Lib.hid (K3.out.trans hk4.below)
        clear hown4 hk4
        obtain ⟨g4, hg4⟩ : ∃ g, ao4 = some ⟨g, 0, none⟩ := by
          obtain ⟨vs, hv, -⟩ := H4.out
          obtain ⟨g, cap, hv', -⟩ := own_cell hv (i := 0) (by simp [seqE]; omega)
          simp only [Value.slice.injEq] at hv'
          exact ⟨g, hv'.1⟩
        subst hg4
        go_wp2_with fail
        go_roundw
        case rel =>
          refine ⟨k + 1, hlt, by go_num, Lib.hid ?_, Lib.hid ?_, Lib.hid (Bc.out.trans (K4.out.mono hzc))⟩
          · rw [hst2.out]; exact ⟨g4, cap4, by simp⟩
          · rw [hst2.out]; simpa using H4.out.seq (T := fun b => (S b ∧ b < w.heap.size) ∨ w.heap.size ≤ b) (by simp; omega) fun b _ h => h.elim id fun h => .inr (Nat.le_trans hzc h)
        case measure => simp [intOf]; omega
    · obtain rfl : k = l.length := by omega
      clear hsh
      have hkI : ¬ (l.length : Int) < (l.length : Int) := by omega
      rw [List.take_length] at hO
      go_wp2_with fail
      go_ret
      exact ⟨_, rfl, hbr.out, hO.out.mono (fun b h _ => h.elim (fun h => .inl h.1) .inr) fun _ _ _ => rfl⟩
end Go.Proofs.YtckkjjiaecnciaaGreat
