/-
  Layer 14, the program: may, Right.
-/
import Derived.Test.YtckkjjiaecnciaaGreatSpJ
import Derived.Test.YtckkjjiaecnciaaGreatMtI
import Derived.Test.YtckkjjiaecnciaaGreatMtK
namespace Go.Proofs.YtckkjjiaecnciaaGreat
open Go Go.RowKit

theorem MatchB_spec {S T : Nat → Prop} {w : World} {v u : Value} {p t : List Cell} (hp : Seq cellE S w v p) (ht : Seq cellE T w u t) (hrp : RightT p) (hrt : RightT t) :
    Calls Tryz.prog 53 #[v, u] w (MatPost (matchB p t) w) := by
  have h := MatchP_spec hp ht hrp hrt
  rwa [show mP p t = matchB p t from mP_eq hrp hrt] at h
theorem same_boolP {S T : Nat → Prop} {w : World} {v u : Value} {a b : List Cell} (ha : Seq cellE S w v a) (hb : Seq cellE T w u b) : Calls Tryz.prog 48 #[v, u] w (RetV (.bool (decide (a = b))) w) :=
  (SameP_spec ha hb).mono fun _ _ h => ⟨h.1, h.2.belowS⟩
theorem isFun_at : ∀ {l : List Cell} (_ : 0 < l.length), isFun l = decide (l[0].kind = 3)
  | _ :: _, _ => rfl
/-- May a table be so, by itself? -/
def mayT (t : Tab) : Bool := atomT' t.call && decide (numT t.call = t.call) && (List.range t.ans.length).all (ansOK t)
theorem tabOK_may {s : List Tab} {i : Nat} (hi : i < s.length) : tabOK s i = (mayT s[i] && decide (findTb s s[i].call = (i : Int))) := by
  rw [tabOK_at hi]
  unfold mayT
  cases atomT' s[i].call <;> cases decide (numT s[i].call = s[i].call) <;> cases decide (findTb s s[i].call = (i : Int)) <;> simp
theorem mayT_call {t : Tab} (h : atomT' t.call = false ∨ decide (numT t.call = t.call) = false) : mayT t = false := by
  unfold mayT
  rcases h with h | h <;> rw [h] <;> simp
theorem mayT_ans {t : Tab} {k : Nat} (hk : k < t.ans.length) (h : ansOK t k = false) : mayT t = false := by
  unfold mayT
  rw [allR_no hk h, Bool.and_false]
theorem mayT_yes {t : Tab} (h1 : atomT' t.call = true) (h2 : decide (numT t.call = t.call) = true) (h : ∀ j, j < t.ans.length → ansOK t j = true) : mayT t = true := by
  unfold mayT
  rw [h1, h2, allR_yes h]; rfl

set_option maxHeartbeats 12800000 in
set_option maxRecDepth 100000 in
theorem mayP_spec {S : Nat → Prop} {w : World} {v : Value} {t : Tab} (hx : TabV S w v t) : Calls Tryz.prog 32 #[v] w (RetV (.bool (mayT t)) w) := by
  obtain ⟨ca, cc, la, lc, rfl, hC, hA⟩ := hx
  obtain ⟨W, hW⟩ : ∃ W, W = w.alloc (.cells #[.slice ca t.call.length cc, .slice la t.ans.length lc] 43) := ⟨_, rfl⟩
  have HBW := Lib.hid (show Below w.heap.size w W by rw [hW]; exact Seq.way)
  have HR := Lib.hid (show Row 43 W w.heap.size [.slice ca t.call.length cc, .slice la t.ans.length lc] by rw [hW]; exact Row.new w [_, _] 43 rfl)
  have HC := Lib.hid (hC.at HBW.out)
  have HA := Lib.hid (hA.at HBW.out)
  have hal : t.ans.length ≤ 140737488355328 := by obtain ⟨_, _, _, _, _, h, _⟩ := hA; exact h
  have HW := Lib.hid hW
  obtain ⟨bq, hbq⟩ : ∃ b, b = w.heap.size := ⟨_, rfl⟩
  have Hbq := Lib.hid hbq
  rw [← hbq] at HR
  have c0 := HR.out.cell (j := 0) (by simp)
  have c1 := HR.out.cell (j := 1) (by simp)
  have cl := HR.out.lt
  simp only [List.getElem_cons_zero, List.getElem_cons_succ] at c0 c1
  clear hC hA hW hbq
  obtain ⟨r, hr⟩ : ∃ r, r = rightT t.call := ⟨_, rfl⟩
  have CR := Lib.hid (fun (V : World) (h : Below W.heap.size W V) => hr ▸ RightP_spec (w := V) (HC.out.at h))
  go_enter Tryz.func32, Tryz.ntmps32
  go_upto_region 1 with fail
  rw [← HW.out, ← Hbq.out]
  cases r with
  | false =>
    have hd := Lib.hid (show mayT t = false from mayT_call (.inl (by unfold atomT'; rw [← hr]; rfl)))
    clear hr
    have Hkeep := fun {Wk : World} (hW : Below W.heap.size W Wk) => Lib.hid (show Wk.cell? ⟨bq, 0, none⟩ = some (.slice ca t.call.length cc) from (hW.cell (p := ⟨bq, 0, none⟩) cl).trans c0)
    (try simp only [List.append_eq, List.cons_append, List.nil_append])
    refine wp_region_noPanic ?_
    refine wp_region_held_drew (S := fun w' => w'.cell? ⟨bq, 0, none⟩ = some (.slice ca t.call.length cc)) (by kernel_rfl) ?_ (fun hHeld => ?_)
    · exact (Hkeep (Below.drew (Below.refl _ _))).out
    refine wpAnyH_take1 (i := 0) (oi := _) (v := ?_) (by kernel_rfl) rfl (by kernel_rfl) (fun _ _ _ h => h) (Or.inl ⟨by rfl, ?_⟩) (by assumption) ?_
    rotate_left 1
    · intro w hSw; (try dsimp only at hSw); go_simp; (with_reducible rfl)
    (try simp only [Act.put, List.getElem_toArray, List.getElem_cons_zero, List.setIfInBounds_toArray, List.set_cons_zero, List.set_cons_succ])
    refine wpAnyH_take1 (i := 1) (oi := _) (v := ?_) (by kernel_rfl) rfl (by kernel_rfl) (fun _ _ _ h => h) (Or.inl ⟨by rfl, ?_⟩) (by assumption) ?_
    rotate_left 1
    · intro w hSw; (try dsimp only at hSw); go_simp; (with_reducible rfl)
    (try simp only [Act.put, List.getElem_toArray, List.getElem_cons_zero, List.getElem_cons_succ, List.setIfInBounds_toArray, List.set_cons_zero, List.set_cons_succ])
    refine wpAnyH_one (i := 2) (by kernel_rfl) rfl (by rfl) fun K hK => ?_
    go_simp
    refine ((CR.out _ Seq.way)).mono ?_
    rintro e y1 ⟨rfl, hy1⟩
    have HY1 := below_step hy1 (Seq.way : Below W.heap.size W _)
    have zy1 := HY1.size
    (try dsimp only)
    clear hHeld
    refine hK.out _ _ (Hkeep HY1).out fun hHeld => ?_
    clear hK K
    (try simp only [Act.put, List.getElem_toArray, List.getElem_cons_zero, List.getElem_cons_succ, List.setIfInBounds_toArray, List.set_cons_zero, List.set_cons_succ])
    refine wpAnyH_take1 (i := 3) (oi := _) (v := ?_) (by kernel_rfl) rfl (by kernel_rfl) (fun _ _ _ h => h) (Or.inl ⟨by rfl, ?_⟩) (by assumption) ?_
    rotate_left 1
    · intro w hSw; (try dsimp only at hSw); go_simp; (with_reducible rfl)
    (try simp only [Act.put, List.getElem_toArray, List.getElem_cons_zero, List.getElem_cons_succ, List.setIfInBounds_toArray, List.set_cons_zero, List.set_cons_succ])
    refine wpAnyH_take1 (i := 4) (oi := _) (v := ?_) (by kernel_rfl) rfl (by kernel_rfl) (fun _ _ _ h => h) (Or.inl ⟨by rfl, ?_⟩) (by assumption) ?_
    rotate_left 1
    · intro w hSw; (try dsimp only at hSw); go_simp; (with_reducible rfl)
    (try simp only [Act.put, List.getElem_toArray, List.getElem_cons_zero, List.getElem_cons_succ, List.setIfInBounds_toArray, List.set_cons_zero, List.set_cons_succ])
    refine wpAnyH_take1 (i := 5) (oi := _) (v := undef) (by kernel_rfl) rfl (by kernel_rfl) (fun _ _ _ h => h) (Or.inr ⟨by rfl, rfl⟩) (by assumption) ?_
    (try simp only [Act.put, List.getElem_toArray, List.getElem_cons_zero, List.getElem_cons_succ, List.setIfInBounds_toArray, List.set_cons_zero, List.set_cons_succ])
    refine wpAnyH_take1 (i := 6) (oi := _) (v := undef) (by kernel_rfl) rfl (by kernel_rfl) (fun _ _ _ h => h) (Or.inr ⟨by rfl, rfl⟩) (by assumption) ?_
    (try simp only [Act.put, List.getElem_toArray, List.getElem_cons_zero, List.getElem_cons_succ, List.setIfInBounds_toArray, List.set_cons_zero, List.set_cons_succ])
    refine wpAnyH_take1 (i := 7) (oi := _) (v := undef) (by kernel_rfl) rfl (by kernel_rfl) (fun _ _ _ h => h) (Or.inr ⟨by rfl, rfl⟩) (by assumption) ?_
    (try simp only [Act.put, List.getElem_toArray, List.getElem_cons_zero, List.getElem_cons_succ, List.setIfInBounds_toArray, List.set_cons_zero, List.set_cons_succ])
    refine wpAnyH_take1 (i := 8) (oi := _) (v := undef) (by kernel_rfl) rfl (by kernel_rfl) (fun _ _ _ h => h) (Or.inr ⟨by rfl, rfl⟩) (by assumption) ?_
    (try simp only [Act.put, List.getElem_toArray, List.getElem_cons_zero, List.getElem_cons_succ, List.setIfInBounds_toArray, List.set_cons_zero, List.set_cons_succ])
    refine wpAnyH_take1 (i := 9) (oi := _) (v := undef) (by kernel_rfl) rfl (by kernel_rfl) (fun _ _ _ h => h) (Or.inr ⟨by rfl, rfl⟩) (by assumption) ?_
    (try simp only [Act.put, List.getElem_toArray, List.getElem_cons_zero, List.getElem_cons_succ, List.setIfInBounds_toArray, List.set_cons_zero, List.set_cons_succ])
    refine wpAnyH_take1 (i := 10) (oi := _) (v := undef) (by kernel_rfl) rfl (by kernel_rfl) (fun _ _ _ h => h) (Or.inr ⟨by rfl, rfl⟩) (by assumption) ?_
    (try simp only [Act.put, List.getElem_toArray, List.getElem_cons_zero, List.getElem_cons_succ, List.setIfInBounds_toArray, List.set_cons_zero, List.set_cons_succ])
    refine wpAnyH_take1 (i := 11) (oi := _) (v := ?_) (by kernel_rfl) rfl (by kernel_rfl) (fun _ _ _ h => h) (Or.inl ⟨by rfl, ?_⟩) (by assumption) ?_
    rotate_left 1
    · intro w hSw; (try dsimp only at hSw); go_simp; (with_reducible rfl)
    (try simp only [Act.put, List.getElem_toArray, List.getElem_cons_zero, List.getElem_cons_succ, List.setIfInBounds_toArray, List.set_cons_zero, List.set_cons_succ])
    refine wpAnyH_take1 (i := 12) (oi := _) (v := ?_) (by kernel_rfl) rfl (by kernel_rfl) (fun _ _ _ h => h) (Or.inl ⟨by rfl, ?_⟩) (by assumption) ?_
    rotate_left 1
    · intro w hSw; (try dsimp only at hSw); go_simp; (with_reducible rfl)
    (try simp only [Act.put, List.getElem_toArray, List.getElem_cons_zero, List.getElem_cons_succ, List.setIfInBounds_toArray, List.set_cons_zero, List.set_cons_succ])
    refine wpAnyH_take1 (i := 13) (oi := _) (v := undef) (by kernel_rfl) rfl (by kernel_rfl) (fun _ _ _ h => h) (Or.inr ⟨by rfl, rfl⟩) (by assumption) ?_
    (try simp only [Act.put, List.getElem_toArray, List.getElem_cons_zero, List.getElem_cons_succ, List.setIfInBounds_toArray, List.set_cons_zero, List.set_cons_succ])
    refine wpAnyH_take1 (i := 14) (oi := _) (v := undef) (by kernel_rfl) rfl (by kernel_rfl) (fun _ _ _ h => h) (Or.inr ⟨by rfl, rfl⟩) (by assumption) ?_
    (try simp only [Act.put, List.getElem_toArray, List.getElem_cons_zero, List.getElem_cons_succ, List.setIfInBounds_toArray, List.set_cons_zero, List.set_cons_succ])
    refine wpAnyH_take1 (i := 15) (oi := _) (v := undef) (by kernel_rfl) rfl (by kernel_rfl) (fun _ _ _ h => h) (Or.inr ⟨by rfl, rfl⟩) (by assumption) ?_
    (try simp only [Act.put, List.getElem_toArray, List.getElem_cons_zero, List.getElem_cons_succ, List.setIfInBounds_toArray, List.set_cons_zero, List.set_cons_succ])
    refine wpAnyH_take1 (i := 16) (oi := _) (v := undef) (by kernel_rfl) rfl (by kernel_rfl) (fun _ _ _ h => h) (Or.inr ⟨by rfl, rfl⟩) (by assumption) ?_
    (try simp only [Act.put, List.getElem_toArray, List.getElem_cons_zero, List.getElem_cons_succ, List.setIfInBounds_toArray, List.set_cons_zero, List.set_cons_succ])
    refine wpAnyH_take1 (i := 17) (oi := _) (v := undef) (by kernel_rfl) rfl (by kernel_rfl) (fun _ _ _ h => h) (Or.inr ⟨by rfl, rfl⟩) (by assumption) ?_
    (try simp only [Act.put, List.getElem_toArray, List.getElem_cons_zero, List.getElem_cons_succ, List.setIfInBounds_toArray, List.set_cons_zero, List.set_cons_succ])
    refine wpAnyH_take1 (i := 18) (oi := _) (v := undef) (by kernel_rfl) rfl (by kernel_rfl) (fun _ _ _ h => h) (Or.inr ⟨by rfl, rfl⟩) (by assumption) ?_
    (try simp only [Act.put, List.getElem_toArray, List.getElem_cons_zero, List.getElem_cons_succ, List.setIfInBounds_toArray, List.set_cons_zero, List.set_cons_succ])
    refine wpAnyH_take1 (i := 19) (oi := _) (v := undef) (by kernel_rfl) rfl (by kernel_rfl) (fun _ _ _ h => h) (Or.inr ⟨by rfl, rfl⟩) (by assumption) ?_
    (try simp only [Act.put, List.getElem_toArray, List.getElem_cons_zero, List.getElem_cons_succ, List.setIfInBounds_toArray, List.set_cons_zero, List.set_cons_succ])
    refine wpAnyH_take1 (i := 20) (oi := _) (v := ?_) (by kernel_rfl) rfl (by kernel_rfl) (fun _ _ _ h => h) (Or.inl ⟨by rfl, ?_⟩) (by assumption) ?_
    rotate_left 1
    · intro w hSw; (try dsimp only at hSw); go_simp; (with_reducible rfl)
    (try simp only [Act.put, List.getElem_toArray, List.getElem_cons_zero, List.getElem_cons_succ, List.setIfInBounds_toArray, List.set_cons_zero, List.set_cons_succ])
    refine wpAnyH_done (by kernel_rfl) ?_ _
    refine NoPanic.normal ?_
    clear Hkeep
    go_wp2_with fail
    go_ret
    exact ⟨ret_bool hd.out.symm, below_step HY1 HBW.out⟩
  | true =>
    have hrt : RightT t.call := of_decide_eq_true hr.symm
    have hpos : 0 < t.call.length := (RightT.pos hrt)
    have hlen := hrt.1
    have Hrt := Lib.hid hrt
    have hfun := Lib.hid (isFun_at hpos)
    have hat := Lib.hid (show atomT' t.call = decide (t.call[0].kind = 3) by unfold atomT'; rw [← hr, hfun.out]; rfl)
    obtain ⟨_, _, ee, -, -, -, -, x5⟩ := HC.out
    simp only [Value.slice.injEq, true_and] at ee
    obtain ⟨rfl, rfl⟩ := ee
    obtain ⟨b, off, rfl, -, lb, d0, -, -, -, -, -⟩ := x5.cell hpos
    simp only [Nat.zero_mul, Nat.add_zero] at d0
    obtain ⟨kk, hkk⟩ : ∃ kk, kk = t.call[0].kind := ⟨_, rfl⟩
    rw [← hkk] at d0 hat
    have hpI : (0 : Int) < (t.call.length : Int) := by omega
    clear hr hrt hkk x5 hfun
    by_cases hk3 : kk = 3
    rotate_left 1
    · have hk' : (kk != 3) = true := by simpa using hk3
      have hd := Lib.hid (show mayT t = false from mayT_call (.inl (by rw [hat.out, decide_eq_false hk3])))
      clear hk3 hat
      have Hkeep := fun {Wk : World} (hW : Below W.heap.size W Wk) => Lib.hid (show Wk.cell? ⟨bq, 0, none⟩ = some (.slice (some ⟨b, off, none⟩) t.call.length cc) ∧ Wk.cell? ⟨b, off, none⟩ = some (.int .i64 kk) from ⟨(hW.cell (p := ⟨bq, 0, none⟩) cl).trans c0, (hW.cell (p := ⟨b, off, none⟩) lb).trans d0⟩)
      (try simp only [List.append_eq, List.cons_append, List.nil_append])
      refine wp_region_noPanic ?_
      refine wp_region_held_drew (S := fun w' => w'.cell? ⟨bq, 0, none⟩ = some (.slice (some ⟨b, off, none⟩) t.call.length cc) ∧ w'.cell? ⟨b, off, none⟩ = some (.int .i64 kk)) (by kernel_rfl) ?_ (fun hHeld => ?_)
      · exact (Hkeep (Below.drew (Below.refl _ _))).out
      refine wpAnyH_take1 (i := 0) (oi := _) (v := ?_) (by kernel_rfl) rfl (by kernel_rfl) (fun _ _ _ h => h) (Or.inl ⟨by rfl, ?_⟩) (by assumption) ?_
      rotate_left 1
      · intro w hSw; (try dsimp only at hSw); go_simp; (with_reducible rfl)
      (try simp only [Act.put, List.getElem_toArray, List.getElem_cons_zero, List.setIfInBounds_toArray, List.set_cons_zero, List.set_cons_succ])
      refine wpAnyH_take1 (i := 1) (oi := _) (v := ?_) (by kernel_rfl) rfl (by kernel_rfl) (fun _ _ _ h => h) (Or.inl ⟨by rfl, ?_⟩) (by assumption) ?_
      rotate_left 1
      · intro w hSw; (try dsimp only at hSw); go_simp; (with_reducible rfl)
      (try simp only [Act.put, List.getElem_toArray, List.getElem_cons_zero, List.getElem_cons_succ, List.setIfInBounds_toArray, List.set_cons_zero, List.set_cons_succ])
      refine wpAnyH_one (i := 2) (by kernel_rfl) rfl (by rfl) fun K hK => ?_
      go_simp
      refine ((CR.out _ Seq.way)).mono ?_
      rintro e y1 ⟨rfl, hy1⟩
      have HY1 := below_step hy1 (Seq.way : Below W.heap.size W _)
      have zy1 := HY1.size
      (try dsimp only)
      clear hHeld
      refine hK.out _ _ (Hkeep HY1).out fun hHeld => ?_
      clear hK K
      (try simp only [Act.put, List.getElem_toArray, List.getElem_cons_zero, List.getElem_cons_succ, List.setIfInBounds_toArray, List.set_cons_zero, List.set_cons_succ])
      refine wpAnyH_take1 (i := 3) (oi := _) (v := ?_) (by kernel_rfl) rfl (by kernel_rfl) (fun _ _ _ h => h) (Or.inl ⟨by rfl, ?_⟩) (by assumption) ?_
      rotate_left 1
      · intro w hSw; (try dsimp only at hSw); go_simp; (with_reducible rfl)
      (try simp only [Act.put, List.getElem_toArray, List.getElem_cons_zero, List.getElem_cons_succ, List.setIfInBounds_toArray, List.set_cons_zero, List.set_cons_succ])
      refine wpAnyH_take1 (i := 4) (oi := _) (v := ?_) (by kernel_rfl) rfl (by kernel_rfl) (fun _ _ _ h => h) (Or.inl ⟨by rfl, ?_⟩) (by assumption) ?_
      rotate_left 1
      · intro w hSw; (try dsimp only at hSw); go_simp; (with_reducible rfl)
      (try simp only [Act.put, List.getElem_toArray, List.getElem_cons_zero, List.getElem_cons_succ, List.setIfInBounds_toArray, List.set_cons_zero, List.set_cons_succ])
      refine wpAnyH_take1 (i := 5) (oi := _) (v := ?_) (by kernel_rfl) rfl (by kernel_rfl) (fun _ _ _ h => h) (Or.inl ⟨by rfl, ?_⟩) (by assumption) ?_
      rotate_left 1
      · intro w hSw; (try dsimp only at hSw); go_simp; (with_reducible rfl)
      (try simp only [Act.put, List.getElem_toArray, List.getElem_cons_zero, List.getElem_cons_succ, List.setIfInBounds_toArray, List.set_cons_zero, List.set_cons_succ])
      refine wpAnyH_take1 (i := 6) (oi := _) (v := ?_) (by kernel_rfl) rfl (by kernel_rfl) (fun _ _ _ h => h) (Or.inl ⟨by rfl, ?_⟩) (by assumption) ?_
      rotate_left 1
      · intro w hSw; (try dsimp only at hSw); go_simp; (with_reducible rfl)
      (try simp only [Act.put, List.getElem_toArray, List.getElem_cons_zero, List.getElem_cons_succ, List.setIfInBounds_toArray, List.set_cons_zero, List.set_cons_succ])
      refine wpAnyH_take1 (i := 7) (oi := _) (v := ?_) (by kernel_rfl) rfl (by kernel_rfl) (fun _ _ _ h => h) (Or.inl ⟨by rfl, ?_⟩) (by assumption) ?_
      rotate_left 1
      · intro w hSw; (try dsimp only at hSw); go_simp; (with_reducible rfl)
      (try simp only [Act.put, List.getElem_toArray, List.getElem_cons_zero, List.getElem_cons_succ, List.setIfInBounds_toArray, List.set_cons_zero, List.set_cons_succ])
      refine wpAnyH_take1 (i := 8) (oi := _) (v := ?_) (by kernel_rfl) rfl (by kernel_rfl) (fun _ _ _ h => h) (Or.inl ⟨by rfl, ?_⟩) (by assumption) ?_
      rotate_left 1
      · intro w hSw; (try dsimp only at hSw); go_simp; (with_reducible rfl)
      (try simp only [Act.put, List.getElem_toArray, List.getElem_cons_zero, List.getElem_cons_succ, List.setIfInBounds_toArray, List.set_cons_zero, List.set_cons_succ])
      refine wpAnyH_take1 (i := 9) (oi := _) (v := ?_) (by kernel_rfl) rfl (by kernel_rfl) (fun _ _ _ h => h) (Or.inl ⟨by rfl, ?_⟩) (by assumption) ?_
      rotate_left 1
      · intro w hSw; (try dsimp only at hSw); go_simp; (with_reducible rfl)
      (try simp only [Act.put, List.getElem_toArray, List.getElem_cons_zero, List.getElem_cons_succ, List.setIfInBounds_toArray, List.set_cons_zero, List.set_cons_succ])
      refine wpAnyH_take1 (i := 10) (oi := _) (v := ?_) (by kernel_rfl) rfl (by kernel_rfl) (fun _ _ _ h => h) (Or.inl ⟨by rfl, ?_⟩) (by assumption) ?_
      rotate_left 1
      · intro w hSw; (try dsimp only at hSw); go_simp; (with_reducible rfl)
      (try simp only [Act.put, List.getElem_toArray, List.getElem_cons_zero, List.getElem_cons_succ, List.setIfInBounds_toArray, List.set_cons_zero, List.set_cons_succ])
      refine wpAnyH_take1 (i := 11) (oi := _) (v := ?_) (by kernel_rfl) rfl (by kernel_rfl) (fun _ _ _ h => h) (Or.inl ⟨by rfl, ?_⟩) (by assumption) ?_
      rotate_left 1
      · intro w hSw; (try dsimp only at hSw); go_simp; (with_reducible rfl)
      (try simp only [Act.put, List.getElem_toArray, List.getElem_cons_zero, List.getElem_cons_succ, List.setIfInBounds_toArray, List.set_cons_zero, List.set_cons_succ])
      refine wpAnyH_take1 (i := 12) (oi := _) (v := ?_) (by kernel_rfl) rfl (by kernel_rfl) (fun _ _ _ h => h) (Or.inl ⟨by rfl, ?_⟩) (by assumption) ?_
      rotate_left 1
      · intro w hSw; (try dsimp only at hSw); go_simp; (with_reducible rfl)
      (try simp only [Act.put, List.getElem_toArray, List.getElem_cons_zero, List.getElem_cons_succ, List.setIfInBounds_toArray, List.set_cons_zero, List.set_cons_succ])
      refine wpAnyH_take1 (i := 13) (oi := _) (v := undef) (by kernel_rfl) rfl (by kernel_rfl) (fun _ _ _ h => h) (Or.inr ⟨by rfl, rfl⟩) (by assumption) ?_
      (try simp only [Act.put, List.getElem_toArray, List.getElem_cons_zero, List.getElem_cons_succ, List.setIfInBounds_toArray, List.set_cons_zero, List.set_cons_succ])
      refine wpAnyH_take1 (i := 14) (oi := _) (v := undef) (by kernel_rfl) rfl (by kernel_rfl) (fun _ _ _ h => h) (Or.inr ⟨by rfl, rfl⟩) (by assumption) ?_
      (try simp only [Act.put, List.getElem_toArray, List.getElem_cons_zero, List.getElem_cons_succ, List.setIfInBounds_toArray, List.set_cons_zero, List.set_cons_succ])
      refine wpAnyH_take1 (i := 15) (oi := _) (v := undef) (by kernel_rfl) rfl (by kernel_rfl) (fun _ _ _ h => h) (Or.inr ⟨by rfl, rfl⟩) (by assumption) ?_
      (try simp only [Act.put, List.getElem_toArray, List.getElem_cons_zero, List.getElem_cons_succ, List.setIfInBounds_toArray, List.set_cons_zero, List.set_cons_succ])
      refine wpAnyH_take1 (i := 16) (oi := _) (v := undef) (by kernel_rfl) rfl (by kernel_rfl) (fun _ _ _ h => h) (Or.inr ⟨by rfl, rfl⟩) (by assumption) ?_
      (try simp only [Act.put, List.getElem_toArray, List.getElem_cons_zero, List.getElem_cons_succ, List.setIfInBounds_toArray, List.set_cons_zero, List.set_cons_succ])
      refine wpAnyH_take1 (i := 17) (oi := _) (v := undef) (by kernel_rfl) rfl (by kernel_rfl) (fun _ _ _ h => h) (Or.inr ⟨by rfl, rfl⟩) (by assumption) ?_
      (try simp only [Act.put, List.getElem_toArray, List.getElem_cons_zero, List.getElem_cons_succ, List.setIfInBounds_toArray, List.set_cons_zero, List.set_cons_succ])
      refine wpAnyH_take1 (i := 18) (oi := _) (v := undef) (by kernel_rfl) rfl (by kernel_rfl) (fun _ _ _ h => h) (Or.inr ⟨by rfl, rfl⟩) (by assumption) ?_
      (try simp only [Act.put, List.getElem_toArray, List.getElem_cons_zero, List.getElem_cons_succ, List.setIfInBounds_toArray, List.set_cons_zero, List.set_cons_succ])
      refine wpAnyH_take1 (i := 19) (oi := _) (v := undef) (by kernel_rfl) rfl (by kernel_rfl) (fun _ _ _ h => h) (Or.inr ⟨by rfl, rfl⟩) (by assumption) ?_
      (try simp only [Act.put, List.getElem_toArray, List.getElem_cons_zero, List.getElem_cons_succ, List.setIfInBounds_toArray, List.set_cons_zero, List.set_cons_succ])
      refine wpAnyH_take1 (i := 20) (oi := _) (v := ?_) (by kernel_rfl) rfl (by kernel_rfl) (fun _ _ _ h => h) (Or.inl ⟨by rfl, ?_⟩) (by assumption) ?_
      rotate_left 1
      · intro w hSw; (try dsimp only at hSw); go_simp; (with_reducible rfl)
      (try simp only [Act.put, List.getElem_toArray, List.getElem_cons_zero, List.getElem_cons_succ, List.setIfInBounds_toArray, List.set_cons_zero, List.set_cons_succ])
      refine wpAnyH_done (by kernel_rfl) ?_ _
      refine NoPanic.normal ?_
      clear Hkeep
      go_wp2_with fail
      go_ret
      exact ⟨ret_bool hd.out.symm, below_step HY1 HBW.out⟩
    · have hk' : (kk != 3) = false := by simp [hk3]
      have hat2 := Lib.hid (show atomT' t.call = true by rw [hat.out, decide_eq_true hk3])
      clear hk3 hat
      obtain ⟨nn, hnn⟩ : ∃ nn, nn = numT t.call := ⟨_, rfl⟩
      have CN := Lib.hid (fun (V : World) (h : Below W.heap.size W V) => hnn ▸ NumberP_spec (w := V) (HC.out.at h) hpos (by omega))
      obtain ⟨q, hq⟩ : ∃ q, q = decide (nn = t.call) := ⟨_, rfl⟩
      have Hq := Lib.hid (show decide (numT t.call = t.call) = q by rw [hq, hnn])
      have CS := Lib.hid (fun (U : Nat → Prop) (V : World) (u : Value) (hu : Seq cellE U V u nn) (h : Below W.heap.size W V) => hq ▸ same_boolP hu (HC.out.at h))
      clear hnn hq
      cases q with
      | false =>
        have hd := Lib.hid (show mayT t = false from mayT_call (.inr Hq.out))
        have Hkeep := fun {Wk : World} (hW : Below W.heap.size W Wk) => Lib.hid (show Wk.cell? ⟨bq, 0, none⟩ = some (.slice (some ⟨b, off, none⟩) t.call.length cc) ∧ Wk.cell? ⟨b, off, none⟩ = some (.int .i64 kk) from ⟨(hW.cell (p := ⟨bq, 0, none⟩) cl).trans c0, (hW.cell (p := ⟨b, off, none⟩) lb).trans d0⟩)
        (try simp only [List.append_eq, List.cons_append, List.nil_append])
        refine wp_region_noPanic ?_
        refine wp_region_held_drew (S := fun w' => w'.cell? ⟨bq, 0, none⟩ = some (.slice (some ⟨b, off, none⟩) t.call.length cc) ∧ w'.cell? ⟨b, off, none⟩ = some (.int .i64 kk)) (by kernel_rfl) ?_ (fun hHeld => ?_)
        · exact (Hkeep (Below.drew (Below.refl _ _))).out
        refine wpAnyH_take1 (i := 0) (oi := _) (v := ?_) (by kernel_rfl) rfl (by kernel_rfl) (fun _ _ _ h => h) (Or.inl ⟨by rfl, ?_⟩) (by assumption) ?_
        rotate_left 1
        · intro w hSw; (try dsimp only at hSw); go_simp; (with_reducible rfl)
        (try simp only [Act.put, List.getElem_toArray, List.getElem_cons_zero, List.setIfInBounds_toArray, List.set_cons_zero, List.set_cons_succ])
        refine wpAnyH_take1 (i := 1) (oi := _) (v := ?_) (by kernel_rfl) rfl (by kernel_rfl) (fun _ _ _ h => h) (Or.inl ⟨by rfl, ?_⟩) (by assumption) ?_
        rotate_left 1
        · intro w hSw; (try dsimp only at hSw); go_simp; (with_reducible rfl)
        (try simp only [Act.put, List.getElem_toArray, List.getElem_cons_zero, List.getElem_cons_succ, List.setIfInBounds_toArray, List.set_cons_zero, List.set_cons_succ])
        refine wpAnyH_one (i := 2) (by kernel_rfl) rfl (by rfl) fun K hK => ?_
        go_simp
        refine ((CR.out _ Seq.way)).mono ?_
        rintro e y1 ⟨rfl, hy1⟩
        have HY1 := below_step hy1 (Seq.way : Below W.heap.size W _)
        have zy1 := HY1.size
        (try dsimp only)
        clear hHeld
        refine hK.out _ _ (Hkeep HY1).out fun hHeld => ?_
        clear hK K
        (try simp only [Act.put, List.getElem_toArray, List.getElem_cons_zero, List.getElem_cons_succ, List.setIfInBounds_toArray, List.set_cons_zero, List.set_cons_succ])
        refine wpAnyH_take1 (i := 3) (oi := _) (v := ?_) (by kernel_rfl) rfl (by kernel_rfl) (fun _ _ _ h => h) (Or.inl ⟨by rfl, ?_⟩) (by assumption) ?_
        rotate_left 1
        · intro w hSw; (try dsimp only at hSw); go_simp; (with_reducible rfl)
        (try simp only [Act.put, List.getElem_toArray, List.getElem_cons_zero, List.getElem_cons_succ, List.setIfInBounds_toArray, List.set_cons_zero, List.set_cons_succ])
        refine wpAnyH_take1 (i := 4) (oi := _) (v := ?_) (by kernel_rfl) rfl (by kernel_rfl) (fun _ _ _ h => h) (Or.inl ⟨by rfl, ?_⟩) (by assumption) ?_
        rotate_left 1
        · intro w hSw; (try dsimp only at hSw); go_simp; (with_reducible rfl)
        (try simp only [Act.put, List.getElem_toArray, List.getElem_cons_zero, List.getElem_cons_succ, List.setIfInBounds_toArray, List.set_cons_zero, List.set_cons_succ])
        refine wpAnyH_take1 (i := 5) (oi := _) (v := ?_) (by kernel_rfl) rfl (by kernel_rfl) (fun _ _ _ h => h) (Or.inl ⟨by rfl, ?_⟩) (by assumption) ?_
        rotate_left 1
        · intro w hSw; (try dsimp only at hSw); go_simp; (with_reducible rfl)
        (try simp only [Act.put, List.getElem_toArray, List.getElem_cons_zero, List.getElem_cons_succ, List.setIfInBounds_toArray, List.set_cons_zero, List.set_cons_succ])
        refine wpAnyH_take1 (i := 6) (oi := _) (v := ?_) (by kernel_rfl) rfl (by kernel_rfl) (fun _ _ _ h => h) (Or.inl ⟨by rfl, ?_⟩) (by assumption) ?_
        rotate_left 1
        · intro w hSw; (try dsimp only at hSw); go_simp; (with_reducible rfl)
        (try simp only [Act.put, List.getElem_toArray, List.getElem_cons_zero, List.getElem_cons_succ, List.setIfInBounds_toArray, List.set_cons_zero, List.set_cons_succ])
        refine wpAnyH_take1 (i := 7) (oi := _) (v := ?_) (by kernel_rfl) rfl (by kernel_rfl) (fun _ _ _ h => h) (Or.inl ⟨by rfl, ?_⟩) (by assumption) ?_
        rotate_left 1
        · intro w hSw; (try dsimp only at hSw); go_simp; (with_reducible rfl)
        (try simp only [Act.put, List.getElem_toArray, List.getElem_cons_zero, List.getElem_cons_succ, List.setIfInBounds_toArray, List.set_cons_zero, List.set_cons_succ])
        refine wpAnyH_take1 (i := 8) (oi := _) (v := ?_) (by kernel_rfl) rfl (by kernel_rfl) (fun _ _ _ h => h) (Or.inl ⟨by rfl, ?_⟩) (by assumption) ?_
        rotate_left 1
        · intro w hSw; (try dsimp only at hSw); go_simp; (with_reducible rfl)
        (try simp only [Act.put, List.getElem_toArray, List.getElem_cons_zero, List.getElem_cons_succ, List.setIfInBounds_toArray, List.set_cons_zero, List.set_cons_succ])
        refine wpAnyH_take1 (i := 9) (oi := _) (v := ?_) (by kernel_rfl) rfl (by kernel_rfl) (fun _ _ _ h => h) (Or.inl ⟨by rfl, ?_⟩) (by assumption) ?_
        rotate_left 1
        · intro w hSw; (try dsimp only at hSw); go_simp; (with_reducible rfl)
        (try simp only [Act.put, List.getElem_toArray, List.getElem_cons_zero, List.getElem_cons_succ, List.setIfInBounds_toArray, List.set_cons_zero, List.set_cons_succ])
        refine wpAnyH_take1 (i := 10) (oi := _) (v := ?_) (by kernel_rfl) rfl (by kernel_rfl) (fun _ _ _ h => h) (Or.inl ⟨by rfl, ?_⟩) (by assumption) ?_
        rotate_left 1
        · intro w hSw; (try dsimp only at hSw); go_simp; (with_reducible rfl)
        (try simp only [Act.put, List.getElem_toArray, List.getElem_cons_zero, List.getElem_cons_succ, List.setIfInBounds_toArray, List.set_cons_zero, List.set_cons_succ])
        refine wpAnyH_take1 (i := 11) (oi := _) (v := ?_) (by kernel_rfl) rfl (by kernel_rfl) (fun _ _ _ h => h) (Or.inl ⟨by rfl, ?_⟩) (by assumption) ?_
        rotate_left 1
        · intro w hSw; (try dsimp only at hSw); go_simp; (with_reducible rfl)
        (try simp only [Act.put, List.getElem_toArray, List.getElem_cons_zero, List.getElem_cons_succ, List.setIfInBounds_toArray, List.set_cons_zero, List.set_cons_succ])
        refine wpAnyH_take1 (i := 12) (oi := _) (v := ?_) (by kernel_rfl) rfl (by kernel_rfl) (fun _ _ _ h => h) (Or.inl ⟨by rfl, ?_⟩) (by assumption) ?_
        rotate_left 1
        · intro w hSw; (try dsimp only at hSw); go_simp; (with_reducible rfl)
        (try simp only [Act.put, List.getElem_toArray, List.getElem_cons_zero, List.getElem_cons_succ, List.setIfInBounds_toArray, List.set_cons_zero, List.set_cons_succ])
        refine wpAnyH_take1 (i := 13) (oi := _) (v := ?_) (by kernel_rfl) rfl (by kernel_rfl) (fun _ _ _ h => h) (Or.inl ⟨by rfl, ?_⟩) (by assumption) ?_
        rotate_left 1
        · intro w hSw; (try dsimp only at hSw); go_simp; (with_reducible rfl)
        (try simp only [Act.put, List.getElem_toArray, List.getElem_cons_zero, List.getElem_cons_succ, List.setIfInBounds_toArray, List.set_cons_zero, List.set_cons_succ])
        refine wpAnyH_take1 (i := 14) (oi := _) (v := ?_) (by kernel_rfl) rfl (by kernel_rfl) (fun _ _ _ h => h) (Or.inl ⟨by rfl, ?_⟩) (by assumption) ?_
        rotate_left 1
        · intro w hSw; (try dsimp only at hSw); go_simp; (with_reducible rfl)
        (try simp only [Act.put, List.getElem_toArray, List.getElem_cons_zero, List.getElem_cons_succ, List.setIfInBounds_toArray, List.set_cons_zero, List.set_cons_succ])
        refine wpAnyH_take1 (i := 16) (oi := _) (v := ?_) (by kernel_rfl) rfl (by kernel_rfl) (fun _ _ _ h => h) (Or.inl ⟨by rfl, ?_⟩) (by assumption) ?_
        rotate_left 1
        · intro w hSw; (try dsimp only at hSw); go_simp; (with_reducible rfl)
        (try simp only [Act.put, List.getElem_toArray, List.getElem_cons_zero, List.getElem_cons_succ, List.setIfInBounds_toArray, List.set_cons_zero, List.set_cons_succ])
        refine wpAnyH_take1 (i := 17) (oi := _) (v := ?_) (by kernel_rfl) rfl (by kernel_rfl) (fun _ _ _ h => h) (Or.inl ⟨by rfl, ?_⟩) (by assumption) ?_
        rotate_left 1
        · intro w hSw; (try dsimp only at hSw); go_simp; (with_reducible rfl)
        (try simp only [Act.put, List.getElem_toArray, List.getElem_cons_zero, List.getElem_cons_succ, List.setIfInBounds_toArray, List.set_cons_zero, List.set_cons_succ])
        refine wpAnyH_one (i := 15) (by kernel_rfl) rfl (by rfl) fun K hK => ?_
        go_simp
        refine ((CN.out _ (below_step Seq.way HY1))).mono ?_
        rintro e y2 ⟨v2, rfl, hy2, hs2⟩
        have HY2 := below_step hy2 (Seq.way : Below W.heap.size W _)
        have zy2 := HY2.size
        (try dsimp only)
        clear hHeld
        refine hK.out _ _ (Hkeep HY2).out fun hHeld => ?_
        clear hK K
        (try simp only [Act.put, List.getElem_toArray, List.getElem_cons_zero, List.getElem_cons_succ, List.setIfInBounds_toArray, List.set_cons_zero, List.set_cons_succ])
        have HN2 := Lib.hid hs2
        obtain ⟨na, nc, rfl⟩ := hs2.shape
        clear hs2
        refine wpAnyH_one (i := 18) (by kernel_rfl) rfl (by rfl) fun K hK => ?_
        go_simp
        refine ((CS.out _ _ _ (HN2.out.at Seq.way) (below_step Seq.way HY2))).mono ?_
        rintro e y3 ⟨rfl, hy3⟩
        have HY3 := below_step hy3 (Seq.way : Below W.heap.size W _)
        have zy3 := HY3.size
        (try dsimp only)
        clear hHeld
        refine hK.out _ _ (Hkeep HY3).out fun hHeld => ?_
        clear hK K
        (try simp only [Act.put, List.getElem_toArray, List.getElem_cons_zero, List.getElem_cons_succ, List.setIfInBounds_toArray, List.set_cons_zero, List.set_cons_succ])
        refine wpAnyH_take1 (i := 19) (oi := _) (v := ?_) (by kernel_rfl) rfl (by kernel_rfl) (fun _ _ _ h => h) (Or.inl ⟨by rfl, ?_⟩) (by assumption) ?_
        rotate_left 1
        · intro w hSw; (try dsimp only at hSw); go_simp; (with_reducible rfl)
        (try simp only [Act.put, List.getElem_toArray, List.getElem_cons_zero, List.getElem_cons_succ, List.setIfInBounds_toArray, List.set_cons_zero, List.set_cons_succ])
        refine wpAnyH_take1 (i := 20) (oi := _) (v := ?_) (by kernel_rfl) rfl (by kernel_rfl) (fun _ _ _ h => h) (Or.inl ⟨by rfl, ?_⟩) (by assumption) ?_
        rotate_left 1
        · intro w hSw; (try dsimp only at hSw); go_simp; (with_reducible rfl)
        (try simp only [Act.put, List.getElem_toArray, List.getElem_cons_zero, List.getElem_cons_succ, List.setIfInBounds_toArray, List.set_cons_zero, List.set_cons_succ])
        refine wpAnyH_done (by kernel_rfl) ?_ _
        refine NoPanic.normal ?_
        clear Hkeep
        go_wp2_with fail
        go_ret
        exact ⟨ret_bool hd.out.symm, below_step HY3 HBW.out⟩
      | true =>
        have Hkeep := fun {Wk : World} (hW : Below W.heap.size W Wk) => Lib.hid (show Wk.cell? ⟨bq, 0, none⟩ = some (.slice (some ⟨b, off, none⟩) t.call.length cc) ∧ Wk.cell? ⟨b, off, none⟩ = some (.int .i64 kk) from ⟨(hW.cell (p := ⟨bq, 0, none⟩) cl).trans c0, (hW.cell (p := ⟨b, off, none⟩) lb).trans d0⟩)
        (try simp only [List.append_eq, List.cons_append, List.nil_append])
        refine wp_region_noPanic ?_
        refine wp_region_held_drew (S := fun w' => w'.cell? ⟨bq, 0, none⟩ = some (.slice (some ⟨b, off, none⟩) t.call.length cc) ∧ w'.cell? ⟨b, off, none⟩ = some (.int .i64 kk)) (by kernel_rfl) ?_ (fun hHeld => ?_)
        · exact (Hkeep (Below.drew (Below.refl _ _))).out
        refine wpAnyH_take1 (i := 0) (oi := _) (v := ?_) (by kernel_rfl) rfl (by kernel_rfl) (fun _ _ _ h => h) (Or.inl ⟨by rfl, ?_⟩) (by assumption) ?_
        rotate_left 1
        · intro w hSw; (try dsimp only at hSw); go_simp; (with_reducible rfl)
        (try simp only [Act.put, List.getElem_toArray, List.getElem_cons_zero, List.setIfInBounds_toArray, List.set_cons_zero, List.set_cons_succ])
        refine wpAnyH_take1 (i := 1) (oi := _) (v := ?_) (by kernel_rfl) rfl (by kernel_rfl) (fun _ _ _ h => h) (Or.inl ⟨by rfl, ?_⟩) (by assumption) ?_
        rotate_left 1
        · intro w hSw; (try dsimp only at hSw); go_simp; (with_reducible rfl)
        (try simp only [Act.put, List.getElem_toArray, List.getElem_cons_zero, List.getElem_cons_succ, List.setIfInBounds_toArray, List.set_cons_zero, List.set_cons_succ])
        refine wpAnyH_one (i := 2) (by kernel_rfl) rfl (by rfl) fun K hK => ?_
        go_simp
        refine ((CR.out _ Seq.way)).mono ?_
        rintro e y1 ⟨rfl, hy1⟩
        have HY1 := below_step hy1 (Seq.way : Below W.heap.size W _)
        have zy1 := HY1.size
        (try dsimp only)
        clear hHeld
        refine hK.out _ _ (Hkeep HY1).out fun hHeld => ?_
        clear hK K
        (try simp only [Act.put, List.getElem_toArray, List.getElem_cons_zero, List.getElem_cons_succ, List.setIfInBounds_toArray, List.set_cons_zero, List.set_cons_succ])
        refine wpAnyH_take1 (i := 3) (oi := _) (v := ?_) (by kernel_rfl) rfl (by kernel_rfl) (fun _ _ _ h => h) (Or.inl ⟨by rfl, ?_⟩) (by assumption) ?_
        rotate_left 1
        · intro w hSw; (try dsimp only at hSw); go_simp; (with_reducible rfl)
        (try simp only [Act.put, List.getElem_toArray, List.getElem_cons_zero, List.getElem_cons_succ, List.setIfInBounds_toArray, List.set_cons_zero, List.set_cons_succ])
        refine wpAnyH_take1 (i := 4) (oi := _) (v := ?_) (by kernel_rfl) rfl (by kernel_rfl) (fun _ _ _ h => h) (Or.inl ⟨by rfl, ?_⟩) (by assumption) ?_
        rotate_left 1
        · intro w hSw; (try dsimp only at hSw); go_simp; (with_reducible rfl)
        (try simp only [Act.put, List.getElem_toArray, List.getElem_cons_zero, List.getElem_cons_succ, List.setIfInBounds_toArray, List.set_cons_zero, List.set_cons_succ])
        refine wpAnyH_take1 (i := 5) (oi := _) (v := ?_) (by kernel_rfl) rfl (by kernel_rfl) (fun _ _ _ h => h) (Or.inl ⟨by rfl, ?_⟩) (by assumption) ?_
        rotate_left 1
        · intro w hSw; (try dsimp only at hSw); go_simp; (with_reducible rfl)
        (try simp only [Act.put, List.getElem_toArray, List.getElem_cons_zero, List.getElem_cons_succ, List.setIfInBounds_toArray, List.set_cons_zero, List.set_cons_succ])
        refine wpAnyH_take1 (i := 6) (oi := _) (v := ?_) (by kernel_rfl) rfl (by kernel_rfl) (fun _ _ _ h => h) (Or.inl ⟨by rfl, ?_⟩) (by assumption) ?_
        rotate_left 1
        · intro w hSw; (try dsimp only at hSw); go_simp; (with_reducible rfl)
        (try simp only [Act.put, List.getElem_toArray, List.getElem_cons_zero, List.getElem_cons_succ, List.setIfInBounds_toArray, List.set_cons_zero, List.set_cons_succ])
        refine wpAnyH_take1 (i := 7) (oi := _) (v := ?_) (by kernel_rfl) rfl (by kernel_rfl) (fun _ _ _ h => h) (Or.inl ⟨by rfl, ?_⟩) (by assumption) ?_
        rotate_left 1
        · intro w hSw; (try dsimp only at hSw); go_simp; (with_reducible rfl)
        (try simp only [Act.put, List.getElem_toArray, List.getElem_cons_zero, List.getElem_cons_succ, List.setIfInBounds_toArray, List.set_cons_zero, List.set_cons_succ])
        refine wpAnyH_take1 (i := 8) (oi := _) (v := ?_) (by kernel_rfl) rfl (by kernel_rfl) (fun _ _ _ h => h) (Or.inl ⟨by rfl, ?_⟩) (by assumption) ?_
        rotate_left 1
        · intro w hSw; (try dsimp only at hSw); go_simp; (with_reducible rfl)
        (try simp only [Act.put, List.getElem_toArray, List.getElem_cons_zero, List.getElem_cons_succ, List.setIfInBounds_toArray, List.set_cons_zero, List.set_cons_succ])
        refine wpAnyH_take1 (i := 9) (oi := _) (v := ?_) (by kernel_rfl) rfl (by kernel_rfl) (fun _ _ _ h => h) (Or.inl ⟨by rfl, ?_⟩) (by assumption) ?_
        rotate_left 1
        · intro w hSw; (try dsimp only at hSw); go_simp; (with_reducible rfl)
        (try simp only [Act.put, List.getElem_toArray, List.getElem_cons_zero, List.getElem_cons_succ, List.setIfInBounds_toArray, List.set_cons_zero, List.set_cons_succ])
        refine wpAnyH_take1 (i := 10) (oi := _) (v := ?_) (by kernel_rfl) rfl (by kernel_rfl) (fun _ _ _ h => h) (Or.inl ⟨by rfl, ?_⟩) (by assumption) ?_
        rotate_left 1
        · intro w hSw; (try dsimp only at hSw); go_simp; (with_reducible rfl)
        (try simp only [Act.put, List.getElem_toArray, List.getElem_cons_zero, List.getElem_cons_succ, List.setIfInBounds_toArray, List.set_cons_zero, List.set_cons_succ])
        refine wpAnyH_take1 (i := 11) (oi := _) (v := ?_) (by kernel_rfl) rfl (by kernel_rfl) (fun _ _ _ h => h) (Or.inl ⟨by rfl, ?_⟩) (by assumption) ?_
        rotate_left 1
        · intro w hSw; (try dsimp only at hSw); go_simp; (with_reducible rfl)
        (try simp only [Act.put, List.getElem_toArray, List.getElem_cons_zero, List.getElem_cons_succ, List.setIfInBounds_toArray, List.set_cons_zero, List.set_cons_succ])
        refine wpAnyH_take1 (i := 12) (oi := _) (v := ?_) (by kernel_rfl) rfl (by kernel_rfl) (fun _ _ _ h => h) (Or.inl ⟨by rfl, ?_⟩) (by assumption) ?_
        rotate_left 1
        · intro w hSw; (try dsimp only at hSw); go_simp; (with_reducible rfl)
        (try simp only [Act.put, List.getElem_toArray, List.getElem_cons_zero, List.getElem_cons_succ, List.setIfInBounds_toArray, List.set_cons_zero, List.set_cons_succ])
        refine wpAnyH_take1 (i := 13) (oi := _) (v := ?_) (by kernel_rfl) rfl (by kernel_rfl) (fun _ _ _ h => h) (Or.inl ⟨by rfl, ?_⟩) (by assumption) ?_
        rotate_left 1
        · intro w hSw; (try dsimp only at hSw); go_simp; (with_reducible rfl)
        (try simp only [Act.put, List.getElem_toArray, List.getElem_cons_zero, List.getElem_cons_succ, List.setIfInBounds_toArray, List.set_cons_zero, List.set_cons_succ])
        refine wpAnyH_take1 (i := 14) (oi := _) (v := ?_) (by kernel_rfl) rfl (by kernel_rfl) (fun _ _ _ h => h) (Or.inl ⟨by rfl, ?_⟩) (by assumption) ?_
        rotate_left 1
        · intro w hSw; (try dsimp only at hSw); go_simp; (with_reducible rfl)
        (try simp only [Act.put, List.getElem_toArray, List.getElem_cons_zero, List.getElem_cons_succ, List.setIfInBounds_toArray, List.set_cons_zero, List.set_cons_succ])
        refine wpAnyH_take1 (i := 16) (oi := _) (v := ?_) (by kernel_rfl) rfl (by kernel_rfl) (fun _ _ _ h => h) (Or.inl ⟨by rfl, ?_⟩) (by assumption) ?_
        rotate_left 1
        · intro w hSw; (try dsimp only at hSw); go_simp; (with_reducible rfl)
        (try simp only [Act.put, List.getElem_toArray, List.getElem_cons_zero, List.getElem_cons_succ, List.setIfInBounds_toArray, List.set_cons_zero, List.set_cons_succ])
        refine wpAnyH_take1 (i := 17) (oi := _) (v := ?_) (by kernel_rfl) rfl (by kernel_rfl) (fun _ _ _ h => h) (Or.inl ⟨by rfl, ?_⟩) (by assumption) ?_
        rotate_left 1
        · intro w hSw; (try dsimp only at hSw); go_simp; (with_reducible rfl)
        (try simp only [Act.put, List.getElem_toArray, List.getElem_cons_zero, List.getElem_cons_succ, List.setIfInBounds_toArray, List.set_cons_zero, List.set_cons_succ])
        refine wpAnyH_one (i := 15) (by kernel_rfl) rfl (by rfl) fun K hK => ?_
        go_simp
        refine ((CN.out _ (below_step Seq.way HY1))).mono ?_
        rintro e y2 ⟨v2, rfl, hy2, hs2⟩
        have HY2 := below_step hy2 (Seq.way : Below W.heap.size W _)
        have zy2 := HY2.size
        (try dsimp only)
        clear hHeld
        refine hK.out _ _ (Hkeep HY2).out fun hHeld => ?_
        clear hK K
        (try simp only [Act.put, List.getElem_toArray, List.getElem_cons_zero, List.getElem_cons_succ, List.setIfInBounds_toArray, List.set_cons_zero, List.set_cons_succ])
        have HN2 := Lib.hid hs2
        obtain ⟨na, nc, rfl⟩ := hs2.shape
        clear hs2
        refine wpAnyH_one (i := 18) (by kernel_rfl) rfl (by rfl) fun K hK => ?_
        go_simp
        refine ((CS.out _ _ _ (HN2.out.at Seq.way) (below_step Seq.way HY2))).mono ?_
        rintro e y3 ⟨rfl, hy3⟩
        have HY3 := below_step hy3 (Seq.way : Below W.heap.size W _)
        have zy3 := HY3.size
        (try dsimp only)
        clear hHeld
        refine hK.out _ _ (Hkeep HY3).out fun hHeld => ?_
        clear hK K
        (try simp only [Act.put, List.getElem_toArray, List.getElem_cons_zero, List.getElem_cons_succ, List.setIfInBounds_toArray, List.set_cons_zero, List.set_cons_succ])
        refine wpAnyH_take1 (i := 19) (oi := _) (v := ?_) (by kernel_rfl) rfl (by kernel_rfl) (fun _ _ _ h => h) (Or.inl ⟨by rfl, ?_⟩) (by assumption) ?_
        rotate_left 1
        · intro w hSw; (try dsimp only at hSw); go_simp; (with_reducible rfl)
        (try simp only [Act.put, List.getElem_toArray, List.getElem_cons_zero, List.getElem_cons_succ, List.setIfInBounds_toArray, List.set_cons_zero, List.set_cons_succ])
        refine wpAnyH_take1 (i := 20) (oi := _) (v := ?_) (by kernel_rfl) rfl (by kernel_rfl) (fun _ _ _ h => h) (Or.inl ⟨by rfl, ?_⟩) (by assumption) ?_
        rotate_left 1
        · intro w hSw; (try dsimp only at hSw); go_simp; (with_reducible rfl)
        (try simp only [Act.put, List.getElem_toArray, List.getElem_cons_zero, List.getElem_cons_succ, List.setIfInBounds_toArray, List.set_cons_zero, List.set_cons_succ])
        refine wpAnyH_done (by kernel_rfl) ?_ _
        refine NoPanic.normal ?_
        clear Hkeep CS CN CR hHeld HN2 HY1 HY2 zy1 zy2 zy3
        have HC0 := Lib.hid (fun (V : World) (h : Below W.heap.size W V) => ((HR.out.below h HR.out.lt).cell (j := 0) (by simp) : V.cell? ⟨bq, 0, none⟩ = some (.slice (some ⟨b, off, none⟩) t.call.length cc)))
        have HC1 := Lib.hid (fun (V : World) (h : Below W.heap.size W V) => ((HR.out.below h HR.out.lt).cell (j := 1) (by simp) : V.cell? ⟨bq, 1, none⟩ = some (.slice la t.ans.length lc)))
        have e1 := HC1.out _ HY3
        have el := Nat.lt_of_lt_of_le cl HY3.size
        have B3 := Lib.hid HY3
        clear c0 c1 d0 lb hk' hpI HY3
        go_wp2_with fail
        clear e1 el
        go_loopw [31] (fun i wr => ∃ k : Nat, k ≤ t.ans.length ∧ i = .int .i64 k ∧ Hid (∀ j, j < k → ansOK t j = true) ∧ Hid (Below W.heap.size W wr)) (fun i _ => t.ans.length - (intOf i).toNat)
        case atStart => exact ⟨0, Nat.zero_le _, rfl, Lib.hid (fun j h => absurd h (Nat.not_lt_zero _)), B3⟩
        case round =>
          obtain ⟨k, hk, rfl, hall, hbr⟩ := hrel
          by_cases hlt : k < t.ans.length
          · have hansE := Lib.hid (show ansOK t k = (rightT t.ans[k] && groundT t.ans[k] && matchB t.call t.ans[k] && !hasT (t.ans.take k) t.ans[k]) from ansOK_at hlt)
            have hno := Lib.hid (fun h : ansOK t k = false => mayT_ans hlt h)
            have hnx := Lib.hid (show ansOK t k = true → ∀ j, j < k + 1 → ansOK t j = true from fun h j hj => by
              rcases Nat.lt_or_ge j k with h1 | h1
              · exact hall.out j h1
              · obtain rfl : j = k := by omega
                exact h)
            have HAr := Lib.hid (HA.out.at hbr.out)
            have HCr := Lib.hid (HC.out.at hbr.out)
            have e0 := HC0.out _ hbr.out
            have e1 := HC1.out _ hbr.out
            have el := Nat.lt_of_lt_of_le cl hbr.out.size
            obtain ⟨_, _, ee, hcap, -, -, -, x6⟩ := HAr.out
            simp only [Value.slice.injEq, true_and] at ee
            obtain ⟨rfl, rfl⟩ := ee
            obtain ⟨b2, off2, p1, n1, rfl, -, lb2, d0, hX⟩ := x6.seq hlt
            have HTk := Lib.hid (HAr.out.take (j := k) (by omega))
            obtain ⟨A, hA⟩ : ∃ A, A = t.ans.take k := ⟨_, rfl⟩
            rw [← hA] at HTk hansE
            obtain ⟨a, ha⟩ : ∃ a, a = t.ans[k] := ⟨_, rfl⟩
            rw [← ha] at d0 hX hansE
            have HX := Lib.hid hX
            obtain ⟨r1, hr1⟩ : ∃ r, r = rightT a := ⟨_, rfl⟩
            obtain ⟨r2, hr2⟩ : ∃ r, r = groundT a := ⟨_, rfl⟩
            obtain ⟨r3, hr3⟩ : ∃ r, r = matchB t.call a := ⟨_, rfl⟩
            obtain ⟨r4, hr4⟩ : ∃ r, r = hasT A a := ⟨_, rfl⟩
            have C1 := Lib.hid (fun (V : World) (h : Below wr.heap.size wr V) => hr1 ▸ RightP_spec (w := V) (HX.out.at h))
            have C2 := Lib.hid (fun (V : World) (h : Below wr.heap.size wr V) => hr2 ▸ GroundP_spec (w := V) (HX.out.at h))
            have C3 := Lib.hid (fun (h1 : r1 = true) (V : World) (h : Below wr.heap.size wr V) => hr3 ▸ MatchB_spec (w := V) (HCr.out.at h) (HX.out.at h) Hrt.out (of_decide_eq_true (hr1.symm.trans h1)))
            have C4 := Lib.hid (fun (V : World) (h : Below wr.heap.size wr V) => hr4 ▸ hasP_spec (w := V) (HTk.out.at h) (HX.out.at h))
            have HE := Lib.hid (show ansOK t k = (r1 && r2 && r3 && !r4) by rw [hansE.out, hr1, hr2, hr3, hr4])
            have hkI : (k : Int) < (t.ans.length : Int) := by omega
            have hk0 : (0 : Int) ≤ (k : Int) := by omega
            have hkc : (k : Int) ≤ (lc : Int) := by omega
            have hkt : ((k : Int)).toNat = k := Int.toNat_natCast k
            obtain ⟨wo, rfl⟩ : ∃ wo, wo = wr := ⟨_, rfl⟩
            clear hansE hA ha hX x6 hr1 hr2 hr3 hr4 hcap
            go_wp2_with fail
            refine (C1.out _ Seq.way).mono ?_
            rintro e y1 ⟨rfl, hy1⟩
            have HY1 := Lib.hid (below_step hy1 (Seq.way : Below wo.heap.size wo _))
            clear hy1
            cases r1 with
            | false =>
              have hd := Lib.hid (hno.out (HE.out.trans (by simp)))
              go_wp2_with fail
              go_ret
              exact ⟨ret_bool hd.out.symm, below_step (below_step HY1.out hbr.out) HBW.out⟩
            | true =>
              go_wp2_with fail
              refine (C2.out _ (below_step Seq.way HY1.out)).mono ?_
              rintro e y2 ⟨rfl, hy2⟩
              have HY2 := Lib.hid (below_step hy2 (below_step Seq.way HY1.out))
              clear hy2
              cases r2 with
              | false =>
                have hd := Lib.hid (hno.out (HE.out.trans (by simp)))
                go_wp2_with fail
                go_ret
                exact ⟨ret_bool hd.out.symm, below_step (below_step HY2.out hbr.out) HBW.out⟩
              | true =>
                have f1 := (HY2.out.cell (p := ⟨bq, 1, none⟩) el).trans e1
                have f0 := (HY2.out.cell (p := ⟨bq, 0, none⟩) el).trans e0
                have fl := Nat.lt_of_lt_of_le el HY2.out.size
                clear e1 e0 d0 lb2
                go_wp2_with fail
                refine (C4.out _ (below_step Seq.way HY2.out)).mono ?_
                rintro e y3 ⟨rfl, hy3⟩
                have HY3 := Lib.hid (below_step hy3 (below_step Seq.way HY2.out))
                have hy23 := Lib.hid (below_step hy3 (Seq.way : Below y2.heap.size y2 _))
                clear hy3
                cases r4 with
                | true =>
                  have hd := Lib.hid (hno.out (HE.out.trans (by simp)))
                  go_wp2_with fail
                  go_ret
                  exact ⟨ret_bool hd.out.symm, below_step (below_step HY3.out hbr.out) HBW.out⟩
                | false =>
                  have g0 := (hy23.out.cell (p := ⟨bq, 0, none⟩) fl).trans f0
                  have gl := Nat.lt_of_lt_of_le fl hy23.out.size
                  clear f0 f1 fl el
                  go_wp2_with fail
                  refine (C3.out (by first | exact rfl | trivial) _ (below_step Seq.way HY3.out)).mono ?_
                  rintro e y4 ⟨xx, rfl, hy4⟩
                  have HY4 := Lib.hid (below_step hy4 (below_step Seq.way HY3.out))
                  clear hy4 g0 gl
                  cases r3 with
                  | false =>
                    have hd := Lib.hid (hno.out (HE.out.trans (by simp)))
                    go_wp2_with fail
                    go_ret
                    exact ⟨ret_bool hd.out.symm, below_step (below_step HY4.out hbr.out) HBW.out⟩
                  | true =>
                    have hn2 := Lib.hid (hnx.out (HE.out.trans (by simp)))
                    go_wp2_with fail
                    go_roundw
                    case rel => exact ⟨k + 1, hlt, by go_num, hn2, Lib.hid (below_step HY4.out hbr.out)⟩
                    case measure => simp [intOf]; omega
          · obtain rfl : k = t.ans.length := by omega
            have hkI : ¬ (t.ans.length : Int) < (t.ans.length : Int) := by omega
            have hd := Lib.hid (mayT_yes hat2.out Hq.out hall.out)
            go_wp2_with fail
            go_ret
            exact ⟨ret_bool hd.out.symm, below_step hbr.out HBW.out⟩

set_option maxHeartbeats 3200000 in
set_option maxRecDepth 100000 in
theorem RightP14_spec {S : Nat → Prop} {w : World} {v : Value} {s : List Tab} (hs : Seq tabE S w v s) : Calls Tryz.prog 9 #[v] w (RetV (.bool (rightTs s)) w) := by
  have HS := Lib.hid hs
  obtain ⟨aa, ac, rfl⟩ := hs.shape
  have hll : s.length ≤ 140737488355328 := by obtain ⟨_, _, _, _, _, h, _⟩ := hs; exact h
  clear hs
  go_enter Tryz.func9, Tryz.ntmps9
  go_wp2_with fail
  go_loopw [7] (fun i wr => ∃ k : Nat, k ≤ s.length ∧ i = .int .i64 k ∧ Hid (∀ j, j < k → tabOK s j = true) ∧ Hid (Below w.heap.size w wr)) (fun i _ => s.length - (intOf i).toNat)
  case atStart => exact ⟨0, Nat.zero_le _, rfl, Lib.hid (fun j h => absurd h (Nat.not_lt_zero _)), Lib.hid (by first | exact Below.refl _ _ | exact Seq.way)⟩
  case round =>
    obtain ⟨k, hk, rfl, hall, hbr⟩ := hrel
    by_cases hlt : k < s.length
    · have HSr := Lib.hid (HS.out.at hbr.out)
      have htE := Lib.hid (tabOK_may hlt)
      have hno := Lib.hid (show tabOK s k = false → rightTs s = false from fun h => allR_no hlt h)
      have hnx := Lib.hid (show tabOK s k = true → ∀ j, j < k + 1 → tabOK s j = true from fun h j hj => by
        rcases Nat.lt_or_ge j k with h1 | h1
        · exact hall.out j h1
        · obtain rfl : j = k := by omega
          exact h)
      obtain ⟨_, _, ee, -, -, -, -, x5⟩ := HSr.out
      simp only [Value.slice.injEq, true_and] at ee
      obtain ⟨rfl, rfl⟩ := ee
      obtain ⟨b, off, ha, hc, la, lc, rfl, -, lb, c0, c1, hH, hA⟩ := x5.tab hlt
      obtain ⟨x, hx⟩ : ∃ x, x = s[k] := ⟨_, rfl⟩
      rw [← hx] at c0 c1 hH hA htE
      have HH := Lib.hid hH
      have HA := Lib.hid hA
      obtain ⟨m, hm⟩ : ∃ m, m = mayT x := ⟨_, rfl⟩
      have hkI : (k : Int) < (s.length : Int) := by omega
      have hk0 : (0 : Int) ≤ (k : Int) := by omega
      obtain ⟨wo, rfl⟩ : ∃ wo, wo = wr := ⟨_, rfl⟩
      obtain ⟨W, hW⟩ : ∃ W, W = wo.alloc (.cells #[.slice ha x.call.length hc, .slice la x.ans.length lc] 43) := ⟨_, rfl⟩
      have HBW := Lib.hid (show Below wo.heap.size wo W by rw [hW]; exact Seq.way)
      have HR := Lib.hid (show Row 43 W wo.heap.size [.slice ha x.call.length hc, .slice la x.ans.length lc] by rw [hW]; exact Row.new wo [_, _] 43 rfl)
      have HW := Lib.hid hW
      clear hx hH hA x5 hW
      go_upto_region 4 with fail
      rw [← HW.out]
      have d0 := HR.out.cell (j := 0) (by simp)
      have d1 := HR.out.cell (j := 1) (by simp)
      have dl := HR.out.lt
      simp only [List.getElem_cons_zero, List.getElem_cons_succ] at d0 d1
      clear c0 c1 lb
      have CM := Lib.hid (hm ▸ mayP_spec (w := W) (t := x) ⟨ha, hc, la, lc, rfl, HH.out.at HBW.out, HA.out.at HBW.out⟩)
      go_wp2_with fail
      refine CM.out.mono ?_
      rintro e y1 ⟨rfl, hy1⟩
      have HY1 := Lib.hid hy1
      have B1 := Lib.hid (below_step (below_step hy1 HBW.out) hbr.out)
      have e0 := (hy1.cell (p := ⟨wo.heap.size, 0, none⟩) dl).trans d0
      have el := Nat.lt_of_lt_of_le dl hy1.size
      clear hy1 d0 d1 CM
      cases m with
      | false =>
        have hd := Lib.hid (hno.out (htE.out.trans (by rw [← hm]; rfl)))
        clear hm
        go_wp2_with fail
        go_ret
        exact ⟨ret_bool hd.out.symm, B1.out⟩
      | true =>
        have hrt : RightT x.call := by
          have h1 := hm.symm
          unfold mayT atomT' at h1
          simp only [Bool.and_eq_true] at h1
          exact of_decide_eq_true h1.1.1.1
        have htE2 := Lib.hid (show tabOK s k = decide (findTb s x.call = (k : Int)) by rw [htE.out, ← hm]; rfl)
        obtain ⟨f, hf⟩ : ∃ f, f = findTb s x.call := ⟨_, rfl⟩
        have CF := Lib.hid (hf ▸ FindP14_spec (w := y1) (HSr.out.at (below_step HY1.out HBW.out)) (HH.out.at (below_step HY1.out HBW.out)) hrt.pos (by have := hrt.1; omega))
        rw [← hf] at htE2
        clear hm hrt hf htE
        go_wp2_with fail
        refine CF.out.mono ?_
        rintro e y2 ⟨rfl, hy2⟩
        have B2 := Lib.hid (below_step hy2 B1.out)
        clear hy2 e0 el CF
        by_cases hfk : f = (k : Int)
        · have hn2 := Lib.hid (hnx.out (htE2.out.trans (decide_eq_true hfk)))
          have hfb : (f != (k : Int)) = false := by simp [hfk]
          clear hfk htE2
          go_wp2_with fail
          go_roundw
          case rel => exact ⟨k + 1, hlt, by go_num, hn2, B2⟩
          case measure => simp [intOf]; omega
        · have hd := Lib.hid (hno.out (htE2.out.trans (decide_eq_false hfk)))
          have hfb : (f != (k : Int)) = true := by simpa using hfk
          clear hfk htE2
          go_wp2_with fail
          go_ret
          exact ⟨ret_bool hd.out.symm, B2.out⟩
    · obtain rfl : k = s.length := by omega
      have hkI : ¬ (s.length : Int) < (s.length : Int) := by omega
      have hd := Lib.hid (show rightTs s = true from allR_yes hall.out)
      go_wp2_with fail
      go_ret
      exact ⟨ret_bool hd.out.symm, hbr.out⟩
end Go.Proofs.YtckkjjiaecnciaaGreat
