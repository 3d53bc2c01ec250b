/-
  Layer 13: the walk of TransTurned.
-/
import Derived.Test.YteefdmpaclnaiaaTuA
import Derived.Deep.RegionHeld3
import Derived.Deep.Cut
import Derived.Deep.CutRange
import Derived.Deep.DeepCutAuto
import Derived.Outline
namespace Go.Proofs.Yteefdmpaclnaiaa
open Go Go.RowKit

theorem Own.lit1C {S : Nat → Prop} {base : Nat} {w : World} {y : Chg} {ta : Option Addr} {tn tc : Nat} (hy : Seq cellE S w (.slice ta tn tc) y.t) (hb : base ≤ w.heap.size) :
    Own changeE S base 32 (w.alloc (.cells #[.bool y.add, .slice ta tn tc] 32)) (.slice (some ⟨w.heap.size, 0, none⟩) 1 1) [y] := by
  refine ⟨[.bool y.add, .slice ta tn tc], ⟨by simp [changeE], .inr ⟨w.heap.size, 1, #[.bool y.add, .slice ta tn tc], rfl, hb, heap_alloc_new w _, Nat.le_refl _, by simp [maxLen], by simp [changeE], by simp [changeE]⟩⟩, fun k x hx => ?_⟩
  obtain rfl : k = 0 := by have := (List.getElem?_eq_some_iff.1 hx).1; simp at this; omega
  simp at hx; subst hx
  exact ⟨_, ⟨_, rfl, hy.mono (fun b h hlt => ⟨h, by simp [Value.ownBlock]; omega⟩) fun b _ hlt => Below.heap_alloc _ _ _ hlt⟩, fun j hj => by simp [changeE]⟩

/-- What stands at the head of the loop. -/
structure TurM (w0 wr : World) (c : List Chg) (k : Nat) (d t : Value) : Prop where
  bel : Below w0.heap.size w0 wr
  own : Own changeE (fun x => w0.heap.size ≤ x) w0.heap.size 32 wr d (unlL (c.take k))
  seq : Seq changeE (fun x => w0.heap.size ≤ x ∧ d.ownBlock ≠ some x) wr t (unlL (c.take k)).reverse

set_option maxHeartbeats 8000000 in
set_option maxRecDepth 100000 in
theorem turned_spec {S T : Nat → Prop} {w : World} {v u : Value} {l : List (List Cell)} {c : List Chg} (hl : Seq (seqE cellE) S w v l) (hc : Seq changeE T w u c) :
    Calls Try.prog 5 #[v, u] w (RetV (.bool true) w) := by
  have Hl := Lib.hid hl
  have Hc := Lib.hid hc
  obtain ⟨la, lc, rfl, -⟩ := hl
  obtain ⟨ca, cc, rfl, -, -, hal, -, h5⟩ := hc
  go_enter Try.func5, Try.ntmps5
  go_wp2_with fail
  refine head_spec.mono ?_
  rintro e w1 ⟨rfl, hb1⟩
  have HB1 := Lib.hid hb1
  clear hb1
  go_wp2_with fail
  refine (greatL_spec (Hl.out.at HB1.out) (Hc.out.at HB1.out)).mono ?_
  rintro e w2 ⟨bo, rfl, hb2, hg⟩
  have HB2 := Lib.hid (below_step hb2 HB1.out)
  clear hb2
  cases bo
  rotate_left 1
  · go_wp2_with fail
    go_ret
    exact ⟨rfl, HB2.out⟩
  obtain ⟨hl60, hc60⟩ := hg rfl
  clear hg
  have Hlw := fun {w' : World} (h : Below w.heap.size w w') => Lib.hid (h5.below h fun _ _ h => h : SeqAt changeE T w' ca c)
  clear h5
  go_wp2_with fail
  go_loopw [6, 7, 8] (fun d t i wr => ∃ k : Nat, k ≤ c.length ∧ i = .int .i64 k ∧ TurM w2 wr c k d t) (fun _ _ i _ => c.length - (intOf i).toNat)
  case atStart => exact ⟨0, Nat.zero_le _, rfl, Below.refl _ _, Own.nil _ _ _ _ _, Seq.nil _ _ _⟩
  case round =>
    obtain ⟨k, hk, rfl, hM⟩ := hrel
    have Hbr := Lib.hid hM.bel
    have hzr := hM.bel.size
    have HO := Lib.hid hM.own
    have HT := Lib.hid hM.seq
    have HU := Lib.hid (unlL_t (c.take k))
    have hUl := HU.out.2
    rw [List.length_take] at hUl
    obtain ⟨U, hU⟩ : ∃ U, U = unlL (c.take k) := ⟨_, rfl⟩
    rw [← hU] at HO HT HU hUl
    obtain ⟨da, dc, rfl, -⟩ := HO.out.shape
    obtain ⟨ta, tc, rfl⟩ := HT.out.shape
    rw [List.length_reverse] at HT ⊢
    have HUe := Lib.hid hU
    clear hU hM
    by_cases hlt : k < c.length
    · obtain ⟨b1, o1, pa, pc, rfl, -, hlb, e0, e1, hX⟩ := (Hlw (below_step Hbr.out HB2.out)).out.chg hlt
      have hstep := Lib.hid (show unlL (c.take (k + 1)) = unlS U c[k] by rw [unlL_snoc hlt, HUe.out])
      obtain ⟨⟨xa, xt⟩, hxe⟩ : ∃ x, x = c[k] := ⟨_, rfl⟩
      rw [← hxe] at hstep e0 e1 hX
      dsimp only at hstep e0 e1 hX
      have HX := Lib.hid hX
      have He := fun {w' : World} (h : Below wr.heap.size wr w') => Lib.hid (show w'.cell? ⟨b1, o1 + k * 2, none⟩ = some (.bool xa) ∧ w'.cell? ⟨b1, o1 + k * 2 + 1, none⟩ = some (.slice pa xt.length pc) from ⟨(h.cell hlb).trans e0, (h.cell hlb).trans e1⟩)
      clear hxe hX
      have hkl : (k : Int) < (c.length : Int) := by omega
      have hk0 : (0 : Int) ≤ (k : Int) := by omega
      go_upto_region 9 with fail
      go_cut [9] (fun s8 wx => ∃ g v8, s8 = .pointer (some ⟨g, 0, none⟩) ∧ wr.heap.size ≤ g ∧ Row 32 wx g [.bool xa, v8] ∧ Seq cellE (fun b => wr.heap.size ≤ b) wx v8 (factM xt) ∧ Below wr.heap.size wr wx)
      case first =>
        go_region_held3 (fun w' => w'.cell? ⟨b1, o1 + k * 2, none⟩ = some (.bool xa) ∧ w'.cell? ⟨b1, o1 + k * 2 + 1, none⟩ = some (.slice pa xt.length pc))
          (first | exact (He (Below.set1 (Below.set1 HB5 (Nat.le_refl _)) (Nat.le_refl _))).out | exact (He Seq.way).out | go_keep)
          (first
            | (go_at_call 31; refine (MadeR_spec (w := wr.drew) (HX.out.at Seq.way)).mono ?_; rintro e w5 ⟨v5, rfl, hb5, hp5⟩; have HB5 := below_step hb5 (Seq.way : Below wr.heap.size wr wr.drew); have zz5 := HB5.size; obtain ⟨va5, vc5, rfl⟩ := hp5.shape)
            | (go_at_call 31; refine (MadeR_spec (w := (wr.alloc (.cells #[.bool false, .slice none 0 0] 32)).drew) (HX.out.at Seq.way)).mono ?_; rintro e w5 ⟨v5, rfl, hb5, hp5⟩; have HB5 := below_step hb5 (Seq.way : Below wr.heap.size wr (wr.alloc (.cells #[.bool false, .slice none 0 0] 32)).drew); have zz5 := HB5.size; have r5 := rowTo (Row.drewE (Row.new wr [.bool false, .slice none 0 0] 32 rfl)) hb5; obtain ⟨x50, x51⟩ := r5.two; have x52 := r5.frozen 0; have x53 := r5.frozen 1; obtain ⟨va5, vc5, rfl⟩ := hp5.shape))
        · go_wp2_with fail
          go_meet
          exact ⟨_, _, rfl, by omega, Row.new w5 [_, _] _ rfl, (hp5.at Seq.way).mono (fun b h _ => by simpa using h) fun _ _ _ => rfl, HB5.alloc zz5 _⟩
        · go_wp2_with fail
          go_meet
          refine ⟨_, _, rfl, Nat.le_refl _, ((r5.set 0 _).set 1 _), hp5.mono (fun b h _ => ?_) (fun b h _ => ?_), Below.set1 (Below.set1 HB5 (Nat.le_refl _)) (Nat.le_refl _)⟩
          · simp at h; omega
          · simp at h
            rw [Below.heap_setCell _ _ _ _ (fun e => by have e' : b = wr.heap.size := e; omega), Below.heap_setCell _ _ _ _ (fun e => by have e' : b = wr.heap.size := e; omega)]
      case rest =>
        obtain ⟨g, v8, rfl, hg, hr8, hv8, hbx⟩ := hcut
        obtain ⟨wx, rfl⟩ : ∃ wx, wx = wc := ⟨_, rfl⟩
        have hzx := hbx.size
        have Hv8 := Lib.hid hv8
        obtain ⟨va, vc, rfl⟩ := hv8.shape
        obtain ⟨x0, x1⟩ := hr8.two
        have hg8 := hr8.lt
        have R8 := Lib.hid hr8
        have hUs := Lib.hid (show Seq changeE (fun _ => True) wx (.slice da U.length dc) U from (HO.out.move hbx).seq (by omega) (fun _ _ _ => trivial))
        clear hv8 hr8 e0 e1
        go_wp2_with fail
        refine (last_spec hUs.out Hv8.out).mono ?_
        rintro e w3 ⟨rfl, hb3⟩
        have hz3 := hb3.size
        obtain ⟨n, hn⟩ : ∃ n, n = lastL U (factM xt) := ⟨_, rfl⟩
        rw [← hn]
        have R83 := Lib.hid (R8.out.below hb3 hg8)
        obtain ⟨x0, x1⟩ := R83.out.two
        have hg3 := R83.out.lt
        have Hbx3 := Lib.hid (below_step hb3 hbx)
        have HO3 := Lib.hid (HO.out.move Hbx3.out)
        have HT3 := Lib.hid (HT.out.at Hbx3.out)
        have hown9 := Lib.hid (fun x (h : (Value.slice da U.length dc).ownBlock = some x) => HO.out.blk h)
        have hv3 := Lib.hid (show Seq cellE (fun x => w2.heap.size ≤ x ∧ (Value.slice da U.length dc).ownBlock ≠ some x) w3 (.slice va (factM xt).length vc) (factM xt) from
          (Hv8.out.at hb3).mono (fun x hx _ => ⟨by omega, fun e => by have := (hown9.out x e).2; omega⟩) fun _ _ _ => rfl)
        have Hb3 := Lib.hid (below_step Hbx3.out Hbr.out)
        clear hbx hb3
        by_cases hz : n = 0
        · have hs' := Lib.hid (show unlL (c.take (k + 1)) = U ++ [⟨xa, factM xt⟩] by
            rw [hstep.out]; unfold unlS; dsimp only; rw [← hn, if_pos hz])
          have hnz : n = 0 := hz
          subst hz
          have Hn := Lib.hid hn
          clear hn hnz
          go_wp2_with (at_builtin; refine wpList_app_chgW (S := fun x => w2.heap.size ≤ x) (base := w2.heap.size) (y := ⟨xa, factM xt⟩) (xs := U) (v := .slice da U.length dc) rfl _ _ 23 rfl Try.underlying23 infoChg rfl (HO3.out.move Seq.way) rfl (hv3.out.at Seq.way) (fun x h _ => h) (by simp) (by simp) (by omega) (by simp; omega) ?_)
          intro ao4 cap4 w4 hown4 hkept
          have hk4 : ∀ x, x < w3.heap.size → (Value.slice da U.length dc).ownBlock ≠ some x → w4.heap[x]? = w3.heap[x]? := fun x hx hne => by
            rw [hkept.keep x (by simp; omega) hne, Below.heap_alloc _ _ _ hx]
          have hz4 := hkept.below.size
          simp at hz4
          have hne4 : ∀ x, x < w3.heap.size → (Value.slice da U.length dc).ownBlock ≠ some x → (Value.slice ao4 (U.length + 1) cap4).ownBlock ≠ some x := fun x hx hne => by
            rcases hkept.blk with h | h
            · rw [h]; exact hne
            · rw [h]; simp; omega
          have r4 : Row 32 w4 g [.bool xa, .slice va (factM xt).length vc] := R83.out.at (hk4 g hg3 (fun e => by have := (hown9.out g e).2; omega))
          have HO4 := Lib.hid hown4
          have hb4 : Below w2.heap.size w2 w4 := Hb3.out.trans ((Seq.way : Below w2.heap.size w3 _).trans hkept.below)
          have HT4 := Lib.hid (show Seq changeE (fun x => (w2.heap.size ≤ x ∧ (Value.slice ao4 (U.length + 1) cap4).ownBlock ≠ some x) ∧ x < w4.heap.size) w4 (.slice ta U.length tc) U.reverse from
            HT3.out.mono (fun x hx hlt => ⟨⟨hx.1, hne4 x hlt hx.2⟩, by omega⟩) fun x hx hlt => hk4 x hlt hx.2)
          have HV4 := Lib.hid (show Seq cellE (fun x => (w2.heap.size ≤ x ∧ (Value.slice ao4 (U.length + 1) cap4).ownBlock ≠ some x) ∧ x < w4.heap.size) w4 (.slice va (factM xt).length vc) (factM xt) from
            hv3.out.mono (fun x hx hlt => ⟨⟨hx.1, hne4 x hlt hx.2⟩, by omega⟩) fun x hx hlt => hk4 x hlt hx.2)
          have R4 := Lib.hid r4
          have Hb4 := Lib.hid hb4
          obtain ⟨x0, x1⟩ := r4.two
          have hg4 := r4.lt
          have hblk4 := Lib.hid (fun x (h : (Value.slice ao4 (U.length + 1) cap4).ownBlock = some x) => hown4.blk h)
          clear hown4 hkept hk4 hne4 r4 hb4 hz4
          have hlit := Lib.hid (Own.lit1C (y := ⟨xa, factM xt⟩) HV4.out (Nat.le_refl w4.heap.size))
          go_wp2_with (at_builtin; refine wpList_appL (E := changeE) (S := fun x => (w2.heap.size ≤ x ∧ (Value.slice ao4 (U.length + 1) cap4).ownBlock ≠ some x) ∧ x < w4.heap.size) (base := w4.heap.size) (wm := w4.alloc (.cells #[.bool xa, .slice va (factM xt).length vc] 32)) (ys := U.reverse) (zs := ⟨xa, factM xt⟩ :: U.reverse) rfl _ _ 23 rfl Try.underlying23 infoChg rfl rfl hlit.out (Below.refl _ _) rfl (HT4.out.at Seq.way) (fun b h _ => ⟨h, .inl h.2⟩) rfl (by omega) (by simp; omega) (by simp) ?_)
          intro ao5 cap5 w5 hown5 hkept5
          have hM5 := Lib.hid (show TurM w2 w5 c (k + 1) (.slice ao4 (U.length + 1) cap4) (.slice ao5 (U.length + 1) cap5) from by
            have hb5 : Below w4.heap.size w4 w5 := (Seq.way : Below w4.heap.size w4 _).trans hkept5.below
            refine ⟨below_step hb5 Hb4.out, ?_, ?_⟩
            · rw [hs'.out]; exact HO4.out.move hb5
            · rw [hs'.out, List.reverse_append]
              have h := hown5.seq (T := fun x => w2.heap.size ≤ x ∧ (Value.slice ao4 (U.length + 1) cap4).ownBlock ≠ some x) (by simp; omega) (fun x _ hx => hx.elim (fun h => h.1) fun h => ⟨by have := Hb4.out.size; omega, fun e => by have := (hblk4.out x e).2; omega⟩)
              simpa using h)
          clear hown5 hkept5
          go_wp2_with fail
          go_roundw
          case rel => exact ⟨k + 1, hlt, by go_num, hM5.out⟩
          case measure => simp [intOf]; omega
        · have hs' := Lib.hid (show unlL (c.take (k + 1)) = U by
            rw [hstep.out]; unfold unlS; dsimp only; rw [← hn, if_neg hz])
          have hM5 := Lib.hid (show TurM w2 w3 c (k + 1) (.slice da U.length dc) (.slice ta U.length tc) from by
            refine ⟨Hb3.out, ?_, ?_⟩
            · rw [hs'.out]; exact HO3.out
            · rw [hs'.out]; exact HT3.out)
          clear hn
          go_wp2_with fail
          go_roundw
          case rel => exact ⟨k + 1, hlt, by go_num, hM5.out⟩
          case measure => simp [intOf]; omega
    · obtain rfl : k = c.length := by omega
      rw [List.take_length] at HUe
      have HU1 := Lib.hid HU.out.1
      have hUl60 : U.length ≤ 60 := by omega
      have HUs := Lib.hid (show Seq changeE (fun _ => True) wr (.slice da U.length dc) U from HO.out.seq (by omega) (fun _ _ _ => trivial))
      have HTs := Lib.hid (show Seq changeE (fun _ => True) wr (.slice ta U.length tc) U.reverse from HT.out.any)
      have Hw := Lib.hid (below_step Hbr.out HB2.out)
      have HUr := Lib.hid (show ∀ c ∈ U.reverse, factT c.t = true ∧ c.t.length ≤ 12 from fun c h => HU1.out.fact c (List.mem_reverse.1 h))
      have hb1 := Lib.hid (begunL_self HU1.out.fact hUl60)
      have hb2 := Lib.hid (begunL_self HUr.out (by rw [List.length_reverse]; exact hUl60))
      clear HO HT Hbr
      go_wp2_with fail
      refine (MadeB_spec (Hl.out.at Hw.out)).mono ?_
      rintro e w3 ⟨v3, rfl, hb3, hs3⟩
      have HB3 := Lib.hid (below_step hb3 Hw.out)
      have HR3 := Lib.hid hb3
      obtain ⟨hF1, hF2⟩ := rowF_rowT l
      obtain ⟨F, hFF⟩ : ∃ F, F = rowF l 40 := ⟨_, rfl⟩
      have hs3 : BasV (fun _ => True) w3 v3 ⟨F, 0, false, []⟩ := hFF ▸ hs3.mono (fun _ _ _ => trivial) fun _ _ _ => rfl
      have hmb : madeB l = ⟨F, 0, false, []⟩ := by rw [hFF]; rfl
      have hbg : ∀ c, begunO (madeB l) c = ⟨F, 0, true, begunL c⟩ := fun c => by rw [hFF]; exact begunO_made
      rw [← hFF] at hF1 hF2
      rw [hmb] at hbg
      have HBg := Lib.hid hbg
      have HF1 := Lib.hid hF1
      have Hs3 := Lib.hid hs3
      obtain ⟨fa, fb, fc, fd, rfl⟩ := hs3.shape
      clear hmb hbg hFF hF1 hs3 hb3
      obtain ⟨W6, hW6⟩ : ∃ W, W = w3.alloc (.cells #[.slice fa F.length fb, .int .i64 0, .bool false, .slice fc 0 fd] 25) := ⟨_, rfl⟩
      have hr6 : Row 25 W6 w3.heap.size [.slice fa F.length fb, .int .i64 0, .bool false, .slice fc 0 fd] := by rw [hW6]; exact Row.new w3 [_, _, _, _] _ rfl
      have HS6 := Lib.hid (show Below w3.heap.size w3 W6 by rw [hW6]; exact Seq.way)
      have Q6 := fun {w' : World} (h : Below W6.heap.size W6 w') => Lib.hid ((rowTo hr6 h).four)
      have z6 : w3.heap.size < W6.heap.size := hr6.lt
      have HW6 := Lib.hid hW6
      clear hW6 hr6
      have HR6 := Lib.hid (below_step HS6.out HR3.out)
      have HW6B := Lib.hid (below_step HS6.out HB3.out)
      obtain ⟨R, hR⟩ : ∃ R, R = U.reverse := ⟨_, rfl⟩
      rw [← hR] at HTs HUr hb2
      have hRl : R.length = U.length := by rw [hR, List.length_reverse]
      have HRe := Lib.hid hR
      have HRl := Lib.hid hRl
      have hRl60 : R.length ≤ 60 := by omega
      clear hR hRl
      go_wp2_with fail
      rw [← HW6.out]
      refine (begun_spec (Hs3.out.at HS6.out) (HUs.out.at HR6.out) (by simp)).mono ?_
      rintro e w4 ⟨v4, d4, rfl, hb4, hs4, hd4⟩
      rw [HBg.out, hb1.out] at hs4
      rw [hb1.out] at hd4
      have HB4 := Lib.hid hb4
      have Hs4 := Lib.hid (show BasV (fun _ => True) w4 v4 ⟨F, 0, true, U⟩ from hs4.mono (fun _ _ _ => trivial) fun _ _ _ => rfl)
      obtain ⟨ga, gb, gc, gd, rfl⟩ := hs4.shape
      obtain ⟨da, db, rfl⟩ := hd4.shape
      clear hs4 hd4 hb4
      obtain ⟨W7, hW7⟩ : ∃ W, W = w4.alloc (.cells #[.slice ga F.length gb, .int .i64 0, .bool true, .slice gc U.length gd] 25) := ⟨_, rfl⟩
      have hr7 : Row 25 W7 w4.heap.size [.slice ga F.length gb, .int .i64 0, .bool true, .slice gc U.length gd] := by rw [hW7]; exact Row.new w4 [_, _, _, _] _ rfl
      have HS7 := Lib.hid (show Below w4.heap.size w4 W7 by rw [hW7]; exact Seq.way)
      have Q7 := fun {w' : World} (h : Below W7.heap.size W7 w') => Lib.hid ((rowTo hr7 h).four)
      have z7 : w4.heap.size < W7.heap.size := hr7.lt
      have HW7 := Lib.hid hW7
      clear hW7 hr7
      have H67 := Lib.hid (below_step HS7.out HB4.out)
      have H37 := Lib.hid (below_step H67.out HS6.out)
      have HR7 := Lib.hid (below_step H67.out HR6.out)
      obtain ⟨c0, c1, c2, c3, -, -, -, -⟩ := (Q6 HB4.out).out
      have l64 : w3.heap.size < w4.heap.size := by have := HB4.out.size; omega
      go_wp2_with fail
      rw [← HW7.out]
      refine (begun_spec (Hs3.out.at H37.out) (HTs.out.at HR7.out) (by simp)).mono ?_
      rintro e w5 ⟨v5, d5, rfl, hb5, hs5, hd5⟩
      rw [HBg.out, hb2.out] at hs5
      rw [hb2.out] at hd5
      have H75 := Lib.hid hb5
      have Hs5 := Lib.hid (show BasV (fun _ => True) w5 v5 ⟨F, 0, true, R⟩ from hs5.mono (fun _ _ _ => trivial) fun _ _ _ => rfl)
      obtain ⟨ka, kb, kc, kd, rfl⟩ := hs5.shape
      obtain ⟨ea, eb, rfl⟩ := hd5.shape
      clear hs5 hd5 hb5 c0 c1 c2 c3
      obtain ⟨W8, hW8⟩ : ∃ W, W = w5.alloc (.cells #[.slice ka F.length kb, .int .i64 0, .bool true, .slice kc R.length kd] 25) := ⟨_, rfl⟩
      have hr8 : Row 25 W8 w5.heap.size [.slice ka F.length kb, .int .i64 0, .bool true, .slice kc R.length kd] := by rw [hW8]; exact Row.new w5 [_, _, _, _] _ rfl
      have HS8 := Lib.hid (show Below w5.heap.size w5 W8 by rw [hW8]; exact Seq.way)
      have Q8 := fun {w' : World} (h : Below W8.heap.size W8 w') => Lib.hid ((rowTo hr8 h).four)
      have z8 : w5.heap.size < W8.heap.size := hr8.lt
      have HW8 := Lib.hid hW8
      clear hW8 hr8
      have H78 := Lib.hid (below_step HS8.out H75.out)
      have H8 := Lib.hid (below_step (below_step H78.out H67.out) HW6B.out)
      obtain ⟨c0, c1, c2, c3, -, -, -, -⟩ := (Q7 H75.out).out
      have l75 : w4.heap.size < w5.heap.size := by have := H75.out.size; omega
      go_wp2_with fail
      rw [← HW8.out]
      refine (CommitP_spec (Hs4.out.at (below_step H78.out HS7.out)) HF1.out (show (0 : Int) ≤ 0 by omega) (show (0 : Int) ≤ _ by omega)).mono ?_
      rintro e w9 ⟨o9, x9, y9, rfl, hb9, ho9, hx9, hy9⟩
      have hcom := com_of (n := 0) HF1.out (fun c h => (HU1.out.fact c h).1) (by omega)
      rw [hcom.1] at ho9
      rw [hcom.2.1]
      obtain ⟨N, hN⟩ : ∃ N, N = nowL F U := ⟨_, rfl⟩
      rw [← hN] at ho9
      have HN := Lib.hid hN
      have Ho9 := Lib.hid (show BasV (fun _ => True) w9 o9 ⟨N, 1, false, []⟩ from ho9.mono (fun _ _ _ => trivial) fun _ _ _ => rfl)
      have H89 := Lib.hid hb9
      obtain ⟨oa, ob, oc, od, rfl⟩ := ho9.shape
      obtain ⟨xa, xb, rfl⟩ := hx9.shape
      obtain ⟨ya, yb, rfl⟩ := hy9.shape
      clear hb9 ho9 hx9 hy9 hcom hN c0 c1 c2 c3
      obtain ⟨W10, hW10⟩ : ∃ W, W = w9.alloc (.cells #[.slice oa N.length ob, .int .i64 1, .bool false, .slice oc 0 od] 25) := ⟨_, rfl⟩
      have hr10 : Row 25 W10 w9.heap.size [.slice oa N.length ob, .int .i64 1, .bool false, .slice oc 0 od] := by rw [hW10]; exact Row.new w9 [_, _, _, _] _ rfl
      have HS10 := Lib.hid (show Below w9.heap.size w9 W10 by rw [hW10]; exact Seq.way)
      have Q10 := fun {w' : World} (h : Below W10.heap.size W10 w') => Lib.hid ((rowTo hr10 h).four)
      have z10 : w9.heap.size < W10.heap.size := hr10.lt
      have HW10 := Lib.hid hW10
      clear hW10 hr10
      have H810 := Lib.hid (below_step HS10.out H89.out)
      have H10 := Lib.hid (below_step H810.out H8.out)
      obtain ⟨c0, c1, c2, c3, -, -, -, -⟩ := (Q8 H89.out).out
      have l89 : w5.heap.size < w9.heap.size := by have := H89.out.size; omega
      go_wp2_with fail
      rw [← HW10.out]
      refine (CommitP_spec (Hs5.out.at (below_step H810.out HS8.out)) HF1.out (show (0 : Int) ≤ 0 by omega) (show (0 : Int) ≤ _ by omega)).mono ?_
      rintro e w11 ⟨o11, x11, y11, rfl, hb11, ho11, hx11, hy11⟩
      have hcom := com_of (n := 0) HF1.out (fun c h => (HUr.out c h).1) (by omega)
      rw [hcom.1] at ho11
      rw [hcom.2.1]
      have hNR : nowL F R = N := by rw [HRe.out, HN.out]; exact nowL_rev HF1.out (fun c h => (HU1.out.fact c h).1) (by omega) HU1.out.un
      rw [hNR] at ho11
      have Ho11 := Lib.hid (show BasV (fun _ => True) w11 o11 ⟨N, 1, false, []⟩ from ho11.mono (fun _ _ _ => trivial) fun _ _ _ => rfl)
      have H1011 := Lib.hid hb11
      obtain ⟨pa, pb, pc, pd, rfl⟩ := ho11.shape
      obtain ⟨xa2, xb2, rfl⟩ := hx11.shape
      obtain ⟨ya2, yb2, rfl⟩ := hy11.shape
      clear hb11 ho11 hx11 hy11 hcom hNR c0 c1 c2 c3
      obtain ⟨W12, hW12⟩ : ∃ W, W = w11.alloc (.cells #[.slice pa N.length pb, .int .i64 1, .bool false, .slice pc 0 pd] 25) := ⟨_, rfl⟩
      have hr12 : Row 25 W12 w11.heap.size [.slice pa N.length pb, .int .i64 1, .bool false, .slice pc 0 pd] := by rw [hW12]; exact Row.new w11 [_, _, _, _] _ rfl
      have HS12 := Lib.hid (show Below w11.heap.size w11 W12 by rw [hW12]; exact Seq.way)
      have Q12 := fun {w' : World} (h : Below W12.heap.size W12 w') => Lib.hid ((rowTo hr12 h).four)
      have z12 : w11.heap.size < W12.heap.size := hr12.lt
      have HW12 := Lib.hid hW12
      clear hW12 hr12
      have H1012 := Lib.hid (below_step HS12.out H1011.out)
      obtain ⟨c0, c1, c2, c3, -, -, -, -⟩ := (Q10 H1011.out).out
      have l1011 : w9.heap.size < w11.heap.size := by have := H1011.out.size; omega
      go_wp2_with fail
      rw [← HW12.out]
      refine (SameB_spec (Ho9.out.at (below_step H1012.out HS10.out)) (Ho11.out.at HS12.out)).mono ?_
      rintro e w13 ⟨rfl, hb13⟩
      have HZ := Lib.hid (below_step (below_step hb13 H1012.out) H10.out)
      clear c0 c1 c2 c3
      go_wp2_with fail
      go_ret
      exact ⟨ret_bool (by simp), HZ.out⟩
end Go.Proofs.Yteefdmpaclnaiaa
