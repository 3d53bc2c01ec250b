/-
  R23: Comps.
-/
import Derived.Test.YtbcambjonjhopaaGreatDpJ
import Derived.Test.YtbcambjonjhopaaGreatAppG
import Derived.Test.YtbcambjonjhopaaGreatRun
namespace Go.Proofs.YtbcambjonjhopaaGreat
open Go Go.RowKit

def sliceLen : Value → Nat
  | .slice _ n _ => n
  | _ => 0
theorem infoInts : (Tryz.prog.info? 32).map (fun i => (i.zero, i.size, i.bytes)) = some (some (.slice none 0 0), 1, 24) := by kernel_rfl
/-- The components, the lowest first. -/
def cmpsL (r : Res) : List (List Nat) := compsL (edgL r) r.tabs.length
theorem compL_pos {L : List (Nat × Nat)} {n i : Nat} (g : GrL L n) (hi : i < n) : 0 < (compL L n i).length := List.length_pos_of_mem (g.self hi)
theorem compsF_some {L : List (Nat × Nat)} {n f i : Nat} {told : List Nat} (h : nextO L n told = some i) : compsF L n (f + 1) told = compL L n i :: compsF L n f (told ++ compL L n i) := by
  show (match nextO L n told with | none => [] | some i => compL L n i :: compsF L n f (told ++ compL L n i)) = _
  rw [h]
theorem compsF_none {L : List (Nat × Nat)} {n f : Nat} {told : List Nat} (h : nextO L n told = none) : compsF L n f told = [] := by
  cases f with
  | zero => rfl
  | succ f =>
    show (match nextO L n told with | none => [] | some i => compL L n i :: compsF L n f (told ++ compL L n i)) = _
    rw [h]
theorem nextO_of {L : List (Nat × Nat)} {n i : Nat} {told : List Nat} (hi : i < n) (h : readyB L n told i = true) (hno : ∀ j, j < i → readyB L n told j = false) : nextO L n told = some i := by
  unfold nextO
  rw [List.find?_range_eq_some]
  exact ⟨h, List.mem_range.2 hi, fun j hj => by rw [hno j hj]; rfl⟩
theorem nextO_no {L : List (Nat × Nat)} {n : Nat} {told : List Nat} (hno : ∀ j, j < n → readyB L n told j = false) : nextO L n told = none := by
  unfold nextO
  rw [List.find?_eq_none]
  intro x hx
  rw [hno x (List.mem_range.1 hx)]; simp
/-- How far the look at one has come. -/
def rdyTo (r : Res) (told : List Nat) (i k : Nat) : Bool := !decide ((i : Int) ∈ natsZ told) && ((natsZ (reaL r i)).take k).all fun x => decide (x ∈ natsZ told ++ natsZ (cmpoL r i))
theorem rdyTo_zero (r : Res) (told : List Nat) (i : Nat) : rdyTo r told i 0 = !decide ((i : Int) ∈ natsZ told) := by unfold rdyTo; simp
theorem rdyTo_succ {r : Res} {told : List Nat} {i k : Nat} (h : k < (natsZ (reaL r i)).length) : rdyTo r told i (k + 1) = (rdyTo r told i k && decide ((natsZ (reaL r i))[k] ∈ natsZ told ++ natsZ (cmpoL r i))) := by
  unfold rdyTo
  rw [List.take_succ_eq_append_getElem h, List.all_append, Bool.and_assoc]
  simp
theorem rdyTo_all {r : Res} {told : List Nat} {i k : Nat} (h : (natsZ (reaL r i)).length ≤ k) : rdyTo r told i k = readyB (edgL r) r.tabs.length told i := by
  unfold rdyTo readyB
  rw [List.take_of_length_le h]
  have h1 : decide ((i : Int) ∈ natsZ told) = told.contains i := by
    rw [Bool.eq_iff_iff, decide_eq_true_eq, natsZ_mem, List.contains_eq_mem, decide_eq_true_eq]
  rw [h1]
  congr 1
  unfold reaL
  rw [Bool.eq_iff_iff, List.all_eq_true, List.all_eq_true]
  have hap : natsZ told ++ natsZ (cmpoL r i) = natsZ (told ++ compL (edgL r) r.tabs.length i) := by unfold natsZ cmpoL; rw [List.map_append]
  rw [hap]
  constructor
  · intro h x hx
    have := h (x : Int) (natsZ_mem.2 hx)
    rw [decide_eq_true_eq, natsZ_mem] at this
    rw [List.contains_eq_mem, decide_eq_true_eq]; exact this
  · intro h x hx
    unfold natsZ at hx
    obtain ⟨y, hy, rfl⟩ := List.mem_map.1 hx
    rw [decide_eq_true_eq, natsZ_mem]
    have := h y hy
    rw [List.contains_eq_mem, decide_eq_true_eq] at this; exact this
theorem rdyTo_step {r : Res} {told : List Nat} {i m : Nat} {x : Int} (h : (natsZ (reaL r i))[m]? = some x) : rdyTo r told i (m + 1) = (rdyTo r told i m && decide (x ∈ natsZ told ++ natsZ (cmpoL r i))) := by
  obtain ⟨h1, rfl⟩ := List.getElem?_eq_some_iff.1 h
  exact rdyTo_succ h1
theorem rdyTo_no {r : Res} {told : List Nat} {i k : Nat} (h : rdyTo r told i k = false) : readyB (edgL r) r.tabs.length told i = false := by
  rw [← rdyTo_all (k := (natsZ (reaL r i)).length) (Nat.le_refl _)]
  unfold rdyTo at h ⊢
  rw [Bool.and_eq_false_iff] at h ⊢
  rcases h with h | h
  · exact .inl h
  · right
    rw [List.all_eq_false] at h ⊢
    obtain ⟨x, hx, hn⟩ := h
    exact ⟨x, by rw [List.take_length]; exact List.mem_of_mem_take hx, hn⟩
/-- How far the look for the next one has come. -/
def nxtOK (r : Res) (told : List Nat) (i : Nat) (at' : Int) : Prop :=
  (at' = -1 ∧ ∀ j, j < i → readyB (edgL r) r.tabs.length told j = false) ∨ ∃ a : Nat, at' = (a : Int) ∧ nextO (edgL r) r.tabs.length told = some a ∧ i = a + 1

theorem nxtOK_no {r : Res} {tl : List Nat} {k : Nat} (h : nxtOK r tl k (-1)) (hr : readyB (edgL r) r.tabs.length tl k = false) : nxtOK r tl (k + 1) (-1) := by
  rcases h with ⟨-, h⟩ | ⟨a, h, -⟩
  · refine .inl ⟨rfl, fun j hj => ?_⟩
    by_cases e : j = k
    · subst e; exact hr
    · exact h j (by omega)
  · omega
theorem nxtOK_yes {r : Res} {tl : List Nat} {k : Nat} (h : nxtOK r tl k (-1)) (hk : k < r.tabs.length) (hr : readyB (edgL r) r.tabs.length tl k = true) : nxtOK r tl (k + 1) (k : Int) := by
  rcases h with ⟨-, h⟩ | ⟨a, h, -⟩
  · exact .inr ⟨k, rfl, nextO_of hk hr h, rfl⟩
  · omega

set_option maxHeartbeats 12800000 in
set_option maxRecDepth 100000 in
theorem CompsR23_spec {S : Nat → Prop} {w : World} {v : Value} {r : Res} (hr : ResV S w v r) (hro : ResOK r) :
    Calls Tryz.prog 18 #[v] w (Ret (fun o w' => Seq (seqE intE) (fun b => w.heap.size ≤ b) w' o ((cmpsL r).map natsZ)) w) := by
  obtain ⟨ta, tc, ia, il, ic, la, lc, rfl, hT, hE⟩ := hr
  obtain ⟨W, hW⟩ : ∃ W, W = w.alloc (.cells #[.slice ta r.tabs.length tc, .slice ia il ic, .slice la r.lks.length lc] 26) := ⟨_, rfl⟩
  have HBW := Lib.hid (show Below w.heap.size w W by rw [hW]; exact Seq.way)
  have HT := Lib.hid (hT.any.at HBW.out)
  have HE := Lib.hid (hE.any.at HBW.out)
  have HW := Lib.hid hW
  obtain ⟨bt, hbt⟩ : ∃ b, b = w.heap.size := ⟨_, rfl⟩
  have Hbt := Lib.hid hbt
  have HR := Lib.hid (show RowA 26 W bt [.slice ta r.tabs.length tc, .slice ia il ic, .slice la r.lks.length lc] by rw [hW, hbt]; exact Row.new w [_, _, _] _ rfl)
  have Kr := fun {W' : World} (h : Below W.heap.size W W') => Lib.hid (show W'.cell? ⟨bt, 0, none⟩ = some (.slice ta r.tabs.length tc) ∧ W'.cell? ⟨bt, 1, none⟩ = some (.slice ia il ic) ∧ W'.cell? ⟨bt, 2, none⟩ = some (.slice la r.lks.length lc) ∧ bt < W'.heap.size from
    ⟨(HR.out.at h).row.cell (j := 0) (by simp), (HR.out.at h).row.cell (j := 1) (by simp), (HR.out.at h).row.cell (j := 2) (by simp), (HR.out.at h).row.lt⟩)
  clear hT hE hW hbt
  have Hro := Lib.hid hro
  have hrl := hro.tl
  have hgr := edgL_gr hro.rg
  have Hgr := Lib.hid hgr
  clear hro hgr
  go_enter Tryz.func18, Tryz.ntmps18
  go_upto_region 1 with fail
  rw [← HW.out, ← Hbt.out]
  obtain ⟨r0, r1, r2, rl⟩ := (Kr (Below.refl _ W)).out
  go_wp2_with fail
  have hso : Own (seqE intE) (fun b => W.heap.size ≤ b ∧ (Value.slice (some ⟨W.heap.size + 1, 0, none⟩) 0 0).ownBlock ≠ some b) W.heap.size 32 ((W.alloc (.cells #[] 32)).alloc (.cells #[] 3)) (.slice (some ⟨W.heap.size, 0, none⟩) 0 0) (([] : List (List Nat)).map natsZ) :=
    (Own.lit0 (w := W) rfl (Nat.le_refl _) rfl : Own (seqE intE) _ W.heap.size 32 (W.alloc (.cells #[] 32)) (.slice (some ⟨W.heap.size, 0, none⟩) 0 0) _).move Seq.way
  have hst : Own intE (fun _ => False) W.heap.size 3 ((W.alloc (.cells #[] 32)).alloc (.cells #[] 3)) (.slice (some ⟨W.heap.size + 1, 0, none⟩) 0 0) (natsZ []) :=
    Own.lit0 (w := W.alloc (.cells #[] 32)) (by simp) (by simp) rfl
  have Hso := Lib.hid hso
  have Hst := Lib.hid hst
  clear hso hst
  clear r0 r1 r2 rl
  go_loopw [3, 4] (fun o t wz => ∃ (C : List (List Nat)) (tl : List Nat) (f : Nat), Hid (cmpsL r = C ++ compsF (edgL r) r.tabs.length f tl) ∧ Hid (Told (edgL r) r.tabs.length tl) ∧ Hid (r.tabs.length + 1 ≤ tl.length + f) ∧ C.length ≤ tl.length ∧ tl.length ≤ r.tabs.length ∧
      Hid (Own (seqE intE) (fun b => W.heap.size ≤ b ∧ t.ownBlock ≠ some b) W.heap.size 32 wz o (C.map natsZ)) ∧ Hid (Own intE (fun _ => False) W.heap.size 3 wz t (natsZ tl)) ∧ Hid (∀ b, o.ownBlock = some b → t.ownBlock ≠ some b) ∧ Hid (Below W.heap.size W wz))
    (fun _ t _ => r.tabs.length - sliceLen t)
  case atStart => exact ⟨[], [], r.tabs.length + 1, Lib.hid rfl, Lib.hid (told_nil _ _), Lib.hid (by simp), by simp, by simp, Hso, Hst, Lib.hid (fun b h e => by
    have h1 : some W.heap.size = some b := h
    have h2 : some (W.heap.size + 1) = some b := e
    simp at h1 h2; omega), Lib.hid Seq.way⟩
  case round =>
    obtain ⟨C, tl, f, hC, hT, hf, hCl, htl, hO, hOt, hne, hbz⟩ := hrel
    obtain ⟨wo, rfl⟩ : ∃ Z, Z = wr := ⟨_, rfl⟩
    have hzr := hbz.out.size
    have hnl := natsZ_len tl
    have hcl : (C.map natsZ).length = C.length := List.length_map ..
    obtain ⟨oa, oc, hov, -, -⟩ := hO.out.shape
    obtain ⟨ua, uc, htv, -, -⟩ := hOt.out.shape
    rw [hcl] at hov
    rw [hnl] at htv
    subst hov
    subst htv
    obtain ⟨r0, r1, r2, rl⟩ := (Kr hbz.out).out
    by_cases hlt : tl.length < r.tabs.length
    · have hltI : (tl.length : Int) < (r.tabs.length : Int) := by omega
      obtain ⟨nx, hnx⟩ := Told.some Hgr.out hlt
      have Hnx := Lib.hid hnx
      have Hlt := Lib.hid hlt
      have HTs := Lib.hid (hOt.out.seq (T := fun _ => True) (by omega) fun _ _ _ => trivial)
      clear hnx hlt
      go_upto_region 5 with fail
      clear r0 r1 r2 rl
      go_wp2_with fail
      go_loopw [5, 6] (fun q i wy => ∃ (k : Nat) (a : Int), k ≤ r.tabs.length ∧ i = .int .i64 k ∧ q = .int .i64 a ∧ Hid (nxtOK r tl k a) ∧ Hid (Below wo.heap.size wo wy)) (fun _ i _ => r.tabs.length - (intOf i).toNat)
      case atStart => exact ⟨0, -1, Nat.zero_le _, rfl, rfl, Lib.hid (.inl ⟨rfl, fun _ h => absurd h (Nat.not_lt_zero _)⟩), Lib.hid (Below.refl _ _)⟩
      case round =>
        obtain ⟨k, a, hk, rfl, rfl, hnk, hby⟩ := hrel
        have hbw := Lib.hid (below_step hby.out hbz.out)
        obtain ⟨r0, r1, r2, rl⟩ := (Kr hbw.out).out
        have hal : a = -1 ∨ ∃ b : Nat, a = (b : Int) := by
          rcases hnk.out with h | ⟨b, h, -⟩
          · exact .inl h.1
          · exact .inr ⟨b, h⟩
        rcases hal with rfl | ⟨b, rfl⟩
        · by_cases hkl : k < r.tabs.length
          · have hkI : (k : Int) < (r.tabs.length : Int) := by omega
            have hk0 : (0 : Int) ≤ (k : Int) := by omega
            have h1 := Lib.hid (fun (W' : World) (h : Below wr.heap.size wr W') => CompR23_spec (w := W') (n := k) (ResV.mk (ia := ia) (il := il) (ic := ic) (HT.out.at (below_step h hbw.out)) (HE.out.at (below_step h hbw.out))) hkl Hro.out)
            have HTz := Lib.hid (HTs.out.at hby.out).bnd
            have hcml := cmpoL_len r k
            have hntl := natsZ_len tl
            obtain ⟨cm, hcm⟩ : ∃ x, x = natsZ (cmpoL r k) := ⟨_, rfl⟩
            rw [← hcm] at h1 hcml
            have Hcm := Lib.hid hcm
            clear hcm
            have Kq := fun {W' : World} (h : Below wr.heap.size wr W') => Lib.hid (show W'.cell? ⟨bt, 0, none⟩ = some (.slice ta r.tabs.length tc) ∧ W'.cell? ⟨bt, 1, none⟩ = some (.slice ia il ic) ∧ W'.cell? ⟨bt, 2, none⟩ = some (.slice la r.lks.length lc) from
              ⟨((Kr (below_step h hbw.out)).out).1, ((Kr (below_step h hbw.out)).out).2.1, ((Kr (below_step h hbw.out)).out).2.2.1⟩)
            go_upto_region 8 with fail
            clear r0 r1 r2 rl
            (try simp only [List.append_eq, List.cons_append, List.nil_append])
            refine wp_region_noPanic ?_
            refine wp_region_held_drew (S := fun w' => w'.cell? ⟨bt, 0, none⟩ = some (.slice ta r.tabs.length tc) ∧ w'.cell? ⟨bt, 1, none⟩ = some (.slice ia il ic) ∧ w'.cell? ⟨bt, 2, none⟩ = some (.slice la r.lks.length lc)) (by kernel_rfl) ?_ (fun hHeld => ?_)
            · exact (Kq (Below.drew (Below.refl _ _))).out
            refine wpAnyH_take1 (i := 1) (oi := _) (v := ?_) (by kernel_rfl) rfl (by kernel_rfl) (fun _ _ _ h => h) (Or.inl ⟨by rfl, ?_⟩) (by assumption) ?_
            rotate_left 1
            · intro w hSw; (try dsimp only at hSw); go_simp; (with_reducible rfl)
            (try simp only [Act.put, List.getElem_toArray, List.getElem_cons_zero, List.getElem_cons_succ, List.setIfInBounds_toArray, List.set_cons_zero, List.set_cons_succ])
            refine wpAnyH_take1 (i := 3) (oi := _) (v := ?_) (by kernel_rfl) rfl (by kernel_rfl) (fun _ _ _ h => h) (Or.inl ⟨by rfl, ?_⟩) (by assumption) ?_
            rotate_left 1
            · intro w hSw; (try dsimp only at hSw); go_simp; (with_reducible rfl)
            (try simp only [Act.put, List.getElem_toArray, List.getElem_cons_zero, List.getElem_cons_succ, List.setIfInBounds_toArray, List.set_cons_zero, List.set_cons_succ])
            refine wpAnyH_take1 (i := 4) (oi := _) (v := ?_) (by kernel_rfl) rfl (by kernel_rfl) (fun _ _ _ h => h) (Or.inl ⟨by rfl, ?_⟩) (by assumption) ?_
            rotate_left 1
            · intro w hSw; (try dsimp only at hSw); go_simp; (with_reducible rfl)
            (try simp only [Act.put, List.getElem_toArray, List.getElem_cons_zero, List.getElem_cons_succ, List.setIfInBounds_toArray, List.set_cons_zero, List.set_cons_succ])
            refine wpAnyH_one (i := 0) (by kernel_rfl) rfl (by rfl) fun K hK => ?_
            go_simp
            (try dsimp only)
            clear hHeld
            refine hK.out _ _ (Kq Seq.way).out fun hHeld => ?_
            clear hK K
            (try simp only [Act.put, List.getElem_toArray, List.getElem_cons_zero, List.getElem_cons_succ, List.setIfInBounds_toArray, List.set_cons_zero, List.set_cons_succ])
            refine wpAnyH_one (i := 2) (by kernel_rfl) rfl (by rfl) fun K hK => ?_
            refine wp_appG (E := intE) (base := wr.heap.size) (S := fun _ => True) (ys := natsZ tl) _ _ 32 rfl Tryz.underlying32 infoInt rfl rfl (Own.lit0 (S := fun _ => True) (xs := ([] : List Int)) rfl (Nat.le_refl _) rfl) rfl (HTz.out.at Seq.way) ?_ (by decide) (by simp; omega) (by simp) ?_
            · intro b hb hlt
              refine ⟨trivial, fun e => ?_⟩
              have e1 : some wr.heap.size = some b := e
              simp only [Option.some.injEq] at e1
              have := hb.2
              omega
            intro ao2 cap2 w2 hown2 hk2
            have HA2 := Lib.hid (show Own intE (fun _ => True) wr.heap.size 3 w2 (.slice ao2 tl.length cap2) (natsZ tl) by have h := hown2; rw [List.nil_append, List.length_nil, Nat.zero_add, hntl] at h; exact h)
            have K2 : Below wr.heap.size wr w2 := Below.trans (Seq.way : Below wr.heap.size wr _) hk2.below
            clear hown2 hk2
            (try dsimp only)
            clear hHeld
            refine hK.out _ _ (Kq K2).out fun hHeld => ?_
            clear hK K
            (try simp only [Act.put, List.getElem_toArray, List.getElem_cons_zero, List.getElem_cons_succ, List.setIfInBounds_toArray, List.set_cons_zero, List.set_cons_succ])
            refine wpAnyH_one (i := 5) (by kernel_rfl) rfl (by rfl) fun K hK => ?_
            go_simp
            refine (h1.out _ Seq.way).mono ?_
            rintro e y5 ⟨v5, rfl, hy5, hs5⟩
            have HY5 := below_step hy5 (Seq.way : Below wr.heap.size wr _)
            have zy5 := HY5.size
            (try dsimp only)
            clear hHeld
            refine hK.out _ _ (Kq HY5).out fun hHeld => ?_
            clear hK K
            (try simp only [Act.put, List.getElem_toArray, List.getElem_cons_zero, List.getElem_cons_succ, List.setIfInBounds_toArray, List.set_cons_zero, List.set_cons_succ])
            refine wpAnyH_one (i := 6) (by kernel_rfl) rfl (by rfl) fun K hK => ?_
            refine wp_appG (E := intE) (base := wr.heap.size) (S := fun _ => True) (ys := cm) _ _ 32 rfl Tryz.underlying32 infoInt rfl rfl (HA2.out.move (below_step hy5 Seq.way)) rfl hs5 ?_ (by decide) (by omega) zy5 ?_
            · intro b hb hlt
              refine ⟨trivial, fun e => ?_⟩
              have e1 := (HA2.out.blk e).2
              have hb' : w2.heap.size ≤ b := hb
              omega
            intro ao6 cap6 w6 hown6 hk6
            have HA6 := Lib.hid (show Own intE (fun _ => True) wr.heap.size 3 w6 (.slice ao6 (tl.length + cm.length) cap6) (natsZ tl ++ cm) by have h := hown6; rw [hntl] at h; exact h)
            have K6 : Below wr.heap.size wr w6 := Below.trans HY5 hk6.below
            clear hown6 hk6
            (try dsimp only)
            clear hHeld
            refine hK.out _ _ (Kq K6).out fun hHeld => ?_
            clear hK K
            (try simp only [Act.put, List.getElem_toArray, List.getElem_cons_zero, List.getElem_cons_succ, List.setIfInBounds_toArray, List.set_cons_zero, List.set_cons_succ])
            refine wpAnyH_take1 (i := 7) (oi := _) (v := ?_) (by kernel_rfl) rfl (by kernel_rfl) (fun _ _ _ h => h) (Or.inl ⟨by rfl, ?_⟩) (by assumption) ?_
            rotate_left 1
            · intro w hSw; (try dsimp only at hSw); go_simp; (with_reducible rfl)
            (try simp only [Act.put, List.getElem_toArray, List.getElem_cons_zero, List.getElem_cons_succ, List.setIfInBounds_toArray, List.set_cons_zero, List.set_cons_succ])
            refine wpAnyH_done (by kernel_rfl) ?_ _
            refine NoPanic.normal ?_
            clear hy5 HY5 zy5 hs5 HA2 K2
            have HAs := Lib.hid (show Seq intE (fun _ => True) w6 (.slice ao6 (tl.length + cm.length) cap6) (natsZ tl ++ cm) by
              have h := HA6.out.seq (T := fun _ => True) (by rw [List.length_append]; omega) fun _ _ _ => trivial
              exact h)
            have HK6 := Lib.hid K6
            have hAl : (natsZ tl ++ cm).length = tl.length + cm.length := by rw [List.length_append, hntl]
            clear HA6 K6 Kq h1
            go_wp2_with fail
            refine (InT_spec (HTs.out.at (below_step HK6.out hby.out))).mono ?_
            rintro e _ ⟨rfl, rfl⟩
            have hb6 := Lib.hid (below_step HK6.out hbw.out)
            obtain ⟨r0, r1, r2, rl⟩ := (Kr hb6.out).out
            go_wp2_with fail
            refine (ReachR_spec (n := k) (ResV.mk (HT.out.at hb6.out) (HE.out.at hb6.out)) Hro.out.rg hkl Hro.out.tl Hro.out.ll).mono ?_
            rintro e w7 ⟨v7, rfl, hb7, hs7⟩
            rw [show natsZ (reachL (edgL r) r.tabs.length k) = natsZ (reaL r k) from rfl] at hs7
            have f0 := Lib.hid (rdyTo_zero r tl k)
            have f1 := Lib.hid (fun m x (h : (natsZ (reaL r k))[m]? = some x) => rdyTo_step (told := tl) h)
            have f2 := Lib.hid (fun m (h : (natsZ (reaL r k)).length ≤ m) => rdyTo_all (told := tl) h)
            have f3 := Lib.hid (fun m (h : rdyTo r tl k m = false) => rdyTo_no h)
            have hrln := reaL_len r k
            rw [← Hcm.out] at f1
            obtain ⟨l, hl⟩ : ∃ l, l = natsZ (reaL r k) := ⟨_, rfl⟩
            rw [← hl] at hs7 f1 f2 hrln
            obtain ⟨f, hf⟩ : ∃ f, f = rdyTo r tl k := ⟨_, rfl⟩
            rw [← hf] at f0 f1 f2 f3
            obtain ⟨rb, hrb⟩ : ∃ b, b = readyB (edgL r) r.tabs.length tl k := ⟨_, rfl⟩
            rw [← hrb] at f2 f3
            have Hrb := Lib.hid hrb
            obtain ⟨A, hA⟩ : ∃ A, A = natsZ tl ++ cm := ⟨_, rfl⟩
            rw [← hA] at f1 HAs hAl
            rw [← f0.out]
            obtain ⟨la7, lc7, rfl⟩ := hs7.shape
            have HL7 := Lib.hid hs7.any
            have HA7 := Lib.hid (HAs.out.at hb7)
            have HB7 := Lib.hid (below_step hb7 HK6.out)
            clear hs7 hb7 hl hf hrb hA HAs f0 r0 r1 r2 rl
            go_wp2_with fail
            have HBw7 := Lib.hid (below_step HB7.out hby.out)
            obtain ⟨wi, rfl⟩ : ∃ Z, Z = wr := ⟨_, rfl⟩
            go_loopw [8, 10] (fun q i wy => ∃ m : Nat, m ≤ l.length ∧ i = .int .i64 m ∧ q = .bool (f m) ∧ w7 = wy) (fun _ i _ => l.length - (intOf i).toNat)
            case atStart => exact ⟨0, Nat.zero_le _, rfl, rfl, rfl⟩
            case round =>
              obtain ⟨m, hm, rfl, rfl, rfl⟩ := hrel
              have hmn : (m : Int) < (l.length : Int) ∨ ¬ (m : Int) < (l.length : Int) := Classical.em _
              by_cases hgo : m < l.length ∧ f m = true
              · obtain ⟨hml, hfm⟩ := hgo
                obtain ⟨_, _, ee, -, -, -, -, x5⟩ := HL7.out
                simp only [Value.slice.injEq, true_and] at ee
                obtain ⟨rfl, rfl⟩ := ee
                obtain ⟨b1, o1, rfl, -, l1, c0, -⟩ := x5.int hml
                have hst := Lib.hid (f1.out m _ (List.getElem?_eq_getElem hml))
                obtain ⟨x, hx⟩ : ∃ x, x = l[m] := ⟨_, rfl⟩
                rw [← hx] at c0 hst
                have hmI : (m : Int) < (l.length : Int) := by omega
                have hm0 : (0 : Int) ≤ (m : Int) := by omega
                rw [hfm] at hst
                have hst2 := Lib.hid (show f (m + 1) = decide (x ∈ A) by rw [hst.out]; rfl)
                rw [hfm]
                clear hx x5 hst hmn hfm
                go_wp2_with fail
                refine (InT_spec HA7.out).mono ?_
                rintro e _ ⟨rfl, rfl⟩
                rw [← hst2.out]
                go_wp2_with fail
                go_roundw
                case rel => exact ⟨m + 1, hml, by go_num, rfl, by first | rfl | trivial⟩
                case measure => simp [intOf]; omega
              · have hfr : f m = rb := by
                  by_cases hml : m < l.length
                  · have h1 : f m = false := by
                      cases h : f m with
                      | false => rfl
                      | true => exact absurd ⟨hml, h⟩ hgo
                    rw [h1, f3.out m h1]
                  · exact f2.out m (by omega)
                have Hfr := Lib.hid hfr
                have hcase : (m : Int) < (l.length : Int) ∧ f m = false ∨ ¬ (m : Int) < (l.length : Int) := by
                  by_cases hml : m < l.length
                  · refine .inl ⟨by omega, ?_⟩
                    cases h : f m with
                    | false => rfl
                    | true => exact absurd ⟨hml, h⟩ hgo
                  · exact .inr (by omega)
                clear hgo hmn hfr
                rcases hcase with ⟨hmI, hfm⟩ | hmI
                · have hrf := Lib.hid (Hfr.out.symm.trans hfm)
                  rw [hfm]
                  clear hfm
                  go_wp2_with fail
                  go_roundw
                  case rel => exact ⟨k + 1, -1, hkl, by go_num, rfl, Lib.hid (nxtOK_no hnk.out (Hrb.out.symm.trans hrf.out)), HBw7⟩
                  case measure => simp [intOf]; omega
                · rw [Hfr.out]
                  cases rb with
                  | false =>
                    go_wp2_with fail
                    go_roundw
                    case rel => exact ⟨k + 1, -1, hkl, by go_num, rfl, Lib.hid (nxtOK_no hnk.out Hrb.out.symm), HBw7⟩
                    case measure => simp [intOf]; omega
                  | true =>
                    go_wp2_with fail
                    go_roundw
                    case rel => exact ⟨k + 1, (k : Int), hkl, by go_num, rfl, Lib.hid (nxtOK_yes hnk.out hkl Hrb.out.symm), HBw7⟩
                    case measure => simp [intOf]; omega
          · exfalso
            rcases hnk.out with ⟨-, h⟩ | ⟨b, h, -⟩
            · have := nextO_no (L := edgL r) (n := r.tabs.length) (told := tl) fun j hj => h j (by omega)
              rw [this] at Hnx
              exact absurd Hnx.out (by simp)
            · omega
        · have hbn : nx = b := by
            rcases hnk.out with ⟨h, -⟩ | ⟨b', h, h2, -⟩
            · omega
            · rw [Hnx.out] at h2
              simp only [Option.some.injEq] at h2
              omega
          subst hbn
          have hnn := (nextO_some Hnx.out).1
          have hng : ((nx : Int) < 0) = False := eq_false (by omega)
          have hnd := Lib.hid (readyB_iff.1 (nextO_some Hnx.out).2.1).1
          obtain ⟨f', hf'⟩ : ∃ f', f = f' + 1 := ⟨f - 1, by have := hf.out; omega⟩
          have hCs := Lib.hid (show cmpsL r = (C ++ [cmpoL r nx]) ++ compsF (edgL r) r.tabs.length f' (tl ++ cmpoL r nx) by
            rw [hC.out, hf', compsF_some Hnx.out, List.append_assoc]; rfl)
          have hTs := Lib.hid (show Told (edgL r) r.tabs.length (tl ++ cmpoL r nx) from hT.out.more Hgr.out hnn hnd.out)
          have hcp := Lib.hid (show 0 < (cmpoL r nx).length from compL_pos Hgr.out hnn)
          have hfs := Lib.hid (show r.tabs.length + 1 ≤ (tl ++ cmpoL r nx).length + f' by
            have h1 := hf.out
            have h2 := hcp.out
            rw [List.length_append]; omega)
          have hcat := Lib.hid (show natsZ (tl ++ cmpoL r nx) = natsZ tl ++ natsZ (cmpoL r nx) by unfold natsZ; rw [List.map_append])
          have hcml := cmpoL_len r nx
          have hc1 := natsZ_len (cmpoL r nx)
          have hcase : (k : Int) < (r.tabs.length : Int) ∨ ¬ (k : Int) < (r.tabs.length : Int) := Classical.em _
          clear hf'
          rcases hcase with hkI | hkI
          all_goals
            go_wp2_with fail
            refine (CompR23_spec (n := nx) (ResV.mk (HT.out.at hbw.out) (HE.out.at hbw.out)) hnn Hro.out).mono ?_
            rintro e y1 ⟨u1, rfl, hy1, hu1⟩
            obtain ⟨ca, cc, hcv⟩ := hu1.shape
            rw [hc1] at hcv
            subst hcv
            have HU := Lib.hid hu1
            have HY := Lib.hid hy1
            have HYo := Lib.hid (below_step hy1 hby.out)
            have hOy := Lib.hid (hO.out.move HYo.out)
            have hOty := Lib.hid (hOt.out.move HYo.out)
            clear hu1 hy1 r0 r1 r2 rl
            have hUo := Lib.hid (show ∀ b, wr.heap.size ≤ b → (Value.slice ua tl.length uc).ownBlock ≠ some b ∧ (Value.slice oa C.length oc).ownBlock ≠ some b from fun b hb => by
              have h1 := hby.out.size
              exact ⟨fun e => by have := (hOt.out.blk e).2; omega, fun e => by have := (hO.out.blk e).2; omega⟩)
            have hyz := HY.out.size
            have hWy := (below_step HYo.out hbz.out).size
            have hWr := hbw.out.size
            go_wp2_with (at_builtin; refine wpList_app_seqW rfl _ _ 35 rfl Tryz.underlying35 infoInts rfl (hOy.out.move Seq.way) rfl (y := natsZ (cmpoL r nx)) (Sy := fun b => wr.heap.size ≤ b) (HU.out.at Seq.way) (fun b hb _ => ⟨⟨Nat.le_trans hWr hb, (hUo.out b hb).1⟩, (hUo.out b hb).2⟩) ?_ ?_ ?_ ?_)
            · go_simp
            · rw [hcl]; omega
            · simp only [World.size_alloc]; omega
            · intro ao2 cap2 w2 hown2 hk2
              have H2 := Lib.hid (show Own (seqE intE) (fun b => W.heap.size ≤ b ∧ (Value.slice ua tl.length uc).ownBlock ≠ some b) W.heap.size 32 w2 (.slice ao2 (C.length + 1) cap2) ((C ++ [cmpoL r nx]).map natsZ) by
                rw [List.map_append]
                have h := hown2
                first | exact h | (rw [hcl] at h; exact h))
              try rw [hcl] at hk2
              try rw [hcl]
              have K2 := Lib.hid (show Below W.heap.size y1 w2 from Below.trans (Below.mono (Seq.way : Below y1.heap.size y1 _) hWy) hk2.below)
              have hz2 := K2.out.size
              obtain ⟨ht2, hd2⟩ := own_beside (o := .slice oa C.length oc) (o' := .slice ao2 (C.length + 1) cap2) (X := fun _ => True) ((hOty.out.move (Seq.way : Below y1.heap.size y1 _)).intS) hk2 (fun b h e => hne.out b e h)
              have hU2 := Lib.hid (show Seq intE (fun b => wr.heap.size ≤ b) w2 (.slice ca (cmpoL r nx).length cc) (natsZ (cmpoL r nx)) from (HU.out.at (Seq.way : Below y1.heap.size y1 _)).mono (fun _ h _ => h) fun b hb hl => hk2.keep b hl (hUo.out b hb).2)
              have Ht2 := Lib.hid ht2
              have Hd2 := Lib.hid hd2
              clear hown2 hk2 ht2 hd2
              go_wp2_with (at_builtin; refine wpList_appG (S := fun _ => True) rfl _ _ 32 rfl Tryz.underlying32 infoInt rfl rfl Ht2.out.intS rfl hU2.out (fun b hb _ => ⟨trivial, (hUo.out b hb).1⟩) (by decide) ?_ ?_ ?_)
              · omega
              · omega
              · intro ao3 cap3 w3 hown3 hk3
                obtain ⟨ho3, hd3⟩ := own_beside H2.out hk3 (fun b h e => Hd2.out b e h)
                have Ho3 := Lib.hid ho3
                have Hd3 := Lib.hid hd3
                have Ht3 := Lib.hid (show Own intE (fun _ => False) W.heap.size 3 w3 (.slice ao3 (tl.length + (cmpoL r nx).length) cap3) (natsZ (tl ++ cmpoL r nx)) by
                  rw [hcat.out]
                  have h := hown3.intS (T := fun _ => False)
                  first | exact h | (rw [hnl, hc1] at h; exact h))
                try rw [hnl, hc1] at Ho3
                try rw [hnl, hc1] at Hd3
                try rw [hnl, hc1] at hk3
                try rw [hnl, hc1]
                have K3 := Lib.hid (below_step HYo.out hbz.out |>.trans (K2.out.trans hk3.below))
                have hlen3 := hTs.out.len
                have hlc : (tl ++ cmpoL r nx).length = tl.length + (cmpoL r nx).length := List.length_append ..
                have hcp2 := hcp.out
                clear hown3 hk3 ho3 hd3
                go_wp2_with fail
                go_roundw
                case rel => exact ⟨C ++ [cmpoL r nx], tl ++ cmpoL r nx, f', hCs, hTs, hfs, by rw [List.length_append, List.length_append]; simp; omega, hlen3, Ho3, Ht3, Hd3, K3⟩
                case measure => simp only [sliceLen]; omega
    · have hltI : ¬ (tl.length : Int) < (r.tabs.length : Int) := by omega
      have hfin := Lib.hid (show cmpsL r = C by
        rw [hC.out, compsF_none (hT.out.none (by omega)), List.append_nil])
      have hret := Lib.hid (show Seq (seqE intE) (fun b => w.heap.size ≤ b) wo (.slice oa C.length oc) ((cmpsL r).map natsZ) by
        rw [hfin.out]
        have h1 := HBW.out.size
        have h2 := hO.out.seqB (T := fun b => w.heap.size ≤ b) (by rw [hcl]; omega) fun b _ hb => by
          rcases hb with hb | hb
          · omega
          · have := (hO.out.blk hb).1; omega
        first | exact h2 | (rw [hcl] at h2; exact h2))
      clear hlt
      go_wp2_with fail
      go_ret
      exact ⟨_, rfl, below_step hbz.out HBW.out, hret.out⟩
end Go.Proofs.YtbcambjonjhopaaGreat
