/-
  Layer 16, the document: one more in its place, once (put, Put, Rules).
-/
import Derived.Test.YtaedgpcmkagpeaaGreatGsC
import Derived.Test.YtaedgpcmkagpeaaGreatTmE
import Derived.Test.YtaedgpcmkagpeaaGreatRun
import Derived.StillTailTactics
import Derived.BigQuiet
namespace Go.Proofs.YtaedgpcmkagpeaaGreat
open Go Go.RowKit

section
variable {α : Type} {c : α → α → Int} {x : α}
theorem lowC_cons_lt {y : α} {l : List α} (h : c y x < 0) : lowC c x (y :: l) = lowC c x l + 1 := by
  unfold lowC
  rw [List.takeWhile_cons, if_pos (by simpa using h), List.length_cons]
theorem lowC_cons_ge {y : α} {l : List α} (h : ¬ c y x < 0) : lowC c x (y :: l) = 0 := by
  unfold lowC
  rw [List.takeWhile_cons, if_neg (by simpa using h)]; rfl
theorem lowC_first : ∀ {l : List α} {k : Nat}, k ≤ l.length → (∀ j (hj : j < l.length), j < k → c l[j] x < 0) → (∀ hk : k < l.length, ¬ c l[k] x < 0) → lowC c x l = k
  | [], k, h, _, _ => by simp at h; subst h; rfl
  | y :: l, 0, _, _, h => lowC_cons_ge (h (by simp))
  | y :: l, k + 1, hk, h1, h2 => by
    rw [lowC_cons_lt (y := y) (show c y x < 0 from h1 0 (by simp) (by omega))]
    congr 1
    exact lowC_first (by simpa using hk) (fun j hj hjk => h1 (j + 1) (by simpa using hj) (by omega)) fun hk => h2 (by simpa using hk)
theorem insC_hit : ∀ {l : List α} (hl : lowC c x l < l.length), c l[lowC c x l] x = 0 → insC c x l = l
  | [], h, _ => by simp [lowC] at h
  | y :: l, h, e => by
    unfold insC
    by_cases h1 : c y x < 0
    · rw [if_pos h1]
      simp only [lowC_cons_lt h1, List.getElem_cons_succ] at e
      rw [lowC_cons_lt h1, List.length_cons] at h
      rw [insC_hit (by omega) e]
    · simp only [lowC_cons_ge h1, List.getElem_cons_zero] at e
      rw [if_neg h1, if_pos e]
theorem insC_mis : ∀ {l : List α}, (∀ hl : lowC c x l < l.length, c l[lowC c x l] x ≠ 0) → insC c x l = (l.take (lowC c x l) ++ [x]) ++ l.drop (lowC c x l)
  | [], _ => by simp [insC, lowC]
  | y :: l, h => by
    unfold insC
    by_cases h1 : c y x < 0
    · have ih := insC_mis (l := l) fun hl => by
        have := h (by rw [lowC_cons_lt h1, List.length_cons]; omega)
        simpa only [lowC_cons_lt h1, List.getElem_cons_succ] using this
      rw [if_pos h1, lowC_cons_lt h1, List.take_succ_cons, List.drop_succ_cons, ih]
      simp
    · have := h (by rw [lowC_cons_ge h1, List.length_cons]; omega)
      simp only [lowC_cons_ge h1, List.getElem_cons_zero] at this
      rw [if_neg h1, if_neg this, lowC_cons_ge h1]; simp
theorem insC_congr {d : α → α → Int} : ∀ {l : List α}, (∀ y ∈ l, Sgn (c y x) (d y x)) → insC c x l = insC d x l
  | [], _ => rfl
  | y :: l, h => by
    obtain ⟨h1, h2⟩ := h y List.mem_cons_self
    unfold insC
    rw [insC_congr fun z hz => h z (List.mem_cons_of_mem _ hz)]
    simp only [h1, h2]
end
theorem infoRule : (Tryz.prog.info? 46).map (fun i => (i.zero, i.size, i.bytes)) = some (some (.agg #[.int .i64 0, .slice none 0 0, .slice none 0 0]), 3, 56) := by kernel_rfl
set_option maxHeartbeats 6400000 in
set_option maxRecDepth 100000 in
theorem PutZ_spec {S : Nat → Prop} {w : World} {v : Value} {l : List (Int)} {n : Int} (hl : Seq (intE) S w v l) (hn : IntOK n) (hlen : l.length ≤ 1000000) :
    Calls Tryz.prog 86 #[v, .int .i64 n] w (Ret (fun o w' => Seq (intE) (Fr (S) w) w' o (insC cmpZ n l)) w) := by
  have HL := Lib.hid hl.bnd
  have Hl := Lib.hid hl
  obtain ⟨aa, ac, rfl, hac, ham, -, -, h5⟩ := hl
  have HA := Lib.hid h5
  clear h5
  go_enter Tryz.func86, Tryz.ntmps86
  go_wp2_with fail
  go_loopw [5] (fun i wr => ∃ k : Nat, k ≤ l.length ∧ i = .int .i64 k ∧ Hid (∀ j (hj : j < l.length), j < k → cmpZ l[j] n < 0) ∧ Hid (Below w.heap.size w wr)) (fun i _ => l.length - (intOf i).toNat)
  case atStart => exact ⟨0, Nat.zero_le _, rfl, Lib.hid (fun j _ h => absurd h (Nat.not_lt_zero _)), Lib.hid Seq.way⟩
  case round =>
    obtain ⟨k, hk, rfl, hno, hbr⟩ := hrel
    have hzr := hbr.out.size
    by_cases hlt : k < l.length
    · obtain ⟨b, off, rfl, hS, hb, hc, -⟩ := (HA.out.below hbr.out fun _ _ h => h).int hlt
      have hkl : (k : Int) < (l.length : Int) := by omega
      have hk0 : (0 : Int) ≤ (k : Int) := by omega
      have hst := Lib.hid (fun hc : cmpZ l[k] n < 0 => show ∀ j (hj : j < l.length), j < k + 1 → cmpZ l[j] n < 0 from fun j hj hjk => by
        by_cases e : j = k
        · subst e; exact hc
        · exact hno.out j hj (by omega))
      have hlow := Lib.hid (fun hc : ¬ cmpZ l[k] n < 0 => lowC_first (c := cmpZ) (x := n) (by omega) hno.out (fun _ h => hc h))
      have hmis := Lib.hid (fun (h1 : ¬ cmpZ l[k] n < 0) (h2 : cmpZ l[k] n ≠ 0) => show insC cmpZ n l = (l.take k ++ [n]) ++ l.drop k by
        have := insC_mis (c := cmpZ) (x := n) (l := l) (by rw [hlow.out h1]; intro _; exact h2)
        rwa [hlow.out h1] at this)
      have hhit := Lib.hid (fun (h1 : ¬ cmpZ l[k] n < 0) (h2 : cmpZ l[k] n = 0) => show insC cmpZ n l = l from
        insC_hit (c := cmpZ) (x := n) (l := l) (by rw [hlow.out h1]; exact hlt) (by simp only [hlow.out h1]; exact h2))
      obtain ⟨y, hy⟩ : ∃ y, y = l[k] := ⟨_, rfl⟩
      rw [← hy] at hst hlow hmis hhit hc
      clear hy hlow
      by_cases hx : y < n
      · have hst2 := Lib.hid (hst.out (cmpZ_lt.2 hx))
        go_wp2_with fail
        go_roundw
        case rel => exact ⟨k + 1, hlt, by go_num, hst2, hbr⟩
        case measure => simp [intOf]; omega
      · have hx0 := Lib.hid (show ¬ cmpZ y n < 0 from fun h => hx (cmpZ_lt.1 h))
        by_cases he : y = n
        · have hh := Lib.hid (hhit.out (by first | exact hx0.out | (have h9 := hx0.out; omega)) (cmpZ_zero.2 he))
          have hebb : (y == n) = true := by simp [he]
          clear he
          go_wp2_with fail
          go_ret
          refine ⟨_, rfl, hbr.out, ?_⟩
          rw [hh.out]
          exact (Hl.out.at hbr.out).mono (fun _ h _ => .inl h) fun _ _ _ => rfl
        · have hm := Lib.hid (hmis.out (by first | exact hx0.out | (have h9 := hx0.out; omega)) (fun h => he (cmpZ_zero.1 h)))
          have hebb : (y == n) = false := by simp [he]
          clear he hmis hhit hst hx0
          have hfin := Lib.hid hm.out
          have hkc : (k : Int) ≤ (ac : Int) := by omega
          have hkl2 : (k : Int) ≤ (l.length : Int) := by omega
          have hk00 : (0 : Int) ≤ (k : Int) := by omega
          obtain ⟨T1, hT1⟩ : ∃ T1, T1 = l.take k := ⟨_, rfl⟩
          obtain ⟨D1, hD1⟩ : ∃ D1, D1 = l.drop k := ⟨_, rfl⟩
          have hTl : T1.length = k := by rw [hT1, List.length_take]; omega
          have hDl : D1.length = l.length - k := by rw [hD1, List.length_drop]
          have HTs := Lib.hid (fun (W' : World) (h : Below w.heap.size w W') => (show Seq (intE) (fun b => S b ∧ b < w.heap.size) W' (.slice (some ⟨b, off, none⟩) k ac) T1 by rw [hT1]; exact (HL.out.at h).take (by omega)))
          have hif : (if ac = k then ((some ⟨b, off, none⟩) : Option Addr) else some ⟨b, off + k, none⟩) = some ⟨b, off + k, none⟩ := if_neg (by omega)
          have HDs := Lib.hid (fun (W' : World) (h : Below w.heap.size w W') => (show Seq (intE) (fun b => S b ∧ b < w.heap.size) W' (.slice (some ⟨b, off + k, none⟩) (l.length - k) (ac - k)) D1 by rw [hD1]; exact (HL.out.at h).drop (i := k) (by omega) (bo := some ⟨b, off + k, none⟩) (hif.symm.trans (by simp [Addr.add_lit, intE])) rfl rfl))

          have Hfin := Lib.hid (show insC cmpZ n l = (T1 ++ [n]) ++ D1 by rw [hT1, hD1]; exact hfin.out)
          have hzW := hbr.out.size
          clear hfin hT1 hD1

          go_wp2_with (at_builtin; go_loud (refine wpList_appL (E := intE) (S := fun b => (S b) ∧ b < w.heap.size) (base := wr.heap.size) (wm := wr.alloc (.cells #[] 3)) (zs := T1) rfl _ _ 36 rfl Tryz.underlying36 infoInt rfl rfl (Own.lit0 rfl (Nat.le_refl _) rfl) (Below.refl _ _) rfl (HTs.out _ (below_step Seq.way hbr.out)) (fun b h _ => ⟨⟨h.1, h.2⟩, .inl (by omega)⟩) rfl (by omega) (by omega) (by simp) ?_))
          intro ao5 cap5 w5 hown5 hk5
          have H5 := Lib.hid hown5
          have B5 := Lib.hid (hbr.out.trans (Below.mono (Below.trans (Seq.way : Below wr.heap.size wr _) hk5.below) hzW))
          have z5 : wr.heap.size ≤ w5.heap.size := Nat.le_trans (by simp) hk5.below.size

          clear hown5 hk5
          go_wp2_with (at_builtin; (refine wpList_app_int (wm := w5) (y := n) rfl _ _ 36 rfl Tryz.underlying36 infoInt rfl H5.out rfl Seq.way hn ((Row.new _ [_] _ rfl).cell (j := 0) (by simp)) (by omega) z5 ?_))
          intro ao6 cap6 w6 hown6 hk6
          have H6 := Lib.hid hown6
          have B6 := Lib.hid (B5.out.trans (Below.mono (Below.trans (Below.mono (Seq.way : Below w5.heap.size w5 _) z5) hk6.below) hzW))
          have z6 : wr.heap.size ≤ w6.heap.size := Nat.le_trans z5 (Nat.le_trans (by simp) hk6.below.size)
          clear hown6 hk6
          obtain ⟨Z, hZ⟩ : ∃ Z, Z = (T1 ++ [n]) ++ D1 := ⟨_, rfl⟩
          have HZ := Lib.hid hZ
          have hZl : Z.length = l.length + 1 := by rw [hZ]; simp; omega
          clear hZ
          go_wp2_with (at_builtin; go_loud (refine wpList_appL (E := intE) (S := fun b => (S b) ∧ b < w.heap.size) (base := wr.heap.size) (wm := w6) (zs := Z) rfl _ _ 36 rfl Tryz.underlying36 infoInt rfl rfl H6.out (Seq.way) rfl (HDs.out _ (below_step Seq.way B6.out)) (fun b h _ => ⟨⟨h.1, h.2⟩, .inl (by omega)⟩) HZ.out (by omega) (by omega) z6 ?_))
          intro ao7 cap7 w7 hown7 hk7
          have H7 := Lib.hid hown7
          have B7 := Lib.hid (B6.out.trans (Below.mono (Below.trans (Below.mono (Seq.way : Below w6.heap.size w6 _) z6) hk7.below) hzW))
          clear hown7 hk7
          go_wp2_with fail
          go_ret
          refine ⟨_, rfl, B7.out, ?_⟩
          rw [Hfin.out, ← HZ.out]
          exact H7.out.seq (by omega) fun b _ h => h.imp (fun h => h.1) fun h => Nat.le_trans hzW h
    · have hkl : ¬ ((k : Int) < (l.length : Int)) := by omega
      have hm := Lib.hid (show insC cmpZ n l = (l.take k ++ [n]) ++ l.drop k by
        have hlow := lowC_first (c := cmpZ) (x := n) (by omega) hno.out (fun h => absurd h hlt)
        have := insC_mis (c := cmpZ) (x := n) (l := l) (by rw [hlow]; intro h; exact absurd h hlt)
        rwa [hlow] at this)
      have hfin := Lib.hid hm.out
      have hkc : (k : Int) ≤ (ac : Int) := by omega
      have hkl2 : (k : Int) ≤ (l.length : Int) := by omega
      have hk00 : (0 : Int) ≤ (k : Int) := by omega
      obtain ⟨T1, hT1⟩ : ∃ T1, T1 = l.take k := ⟨_, rfl⟩
      obtain ⟨D1, hD1⟩ : ∃ D1, D1 = l.drop k := ⟨_, rfl⟩
      have hTl : T1.length = k := by rw [hT1, List.length_take]; omega
      have hDl : D1.length = l.length - k := by rw [hD1, List.length_drop]
      have HTs := Lib.hid (fun (W' : World) (h : Below w.heap.size w W') => (show Seq (intE) (fun b => S b ∧ b < w.heap.size) W' (.slice aa k ac) T1 by rw [hT1]; exact (HL.out.at h).take (by omega)))
      obtain ⟨SB, hif⟩ : ∃ SB, (if ac = k then aa else aa.map (fun x => x.add (k))) = SB := ⟨_, rfl⟩
      have HDs := Lib.hid (fun (W' : World) (h : Below w.heap.size w W') => (show Seq (intE) (fun b => S b ∧ b < w.heap.size) W' (.slice SB (l.length - k) (ac - k)) D1 by rw [hD1]; exact (HL.out.at h).drop (i := k) (by omega) (bo := SB) (hif.symm.trans (by simp [intE])) rfl rfl))
      have Hfin := Lib.hid (show insC cmpZ n l = (T1 ++ [n]) ++ D1 by rw [hT1, hD1]; exact hfin.out)
      have hzW := hbr.out.size
      clear hfin hT1 hD1

      go_wp2_with (at_builtin; go_loud (refine wpList_appL (E := intE) (S := fun b => (S b) ∧ b < w.heap.size) (base := wr.heap.size) (wm := wr.alloc (.cells #[] 3)) (zs := T1) rfl _ _ 36 rfl Tryz.underlying36 infoInt rfl rfl (Own.lit0 rfl (Nat.le_refl _) rfl) (Below.refl _ _) rfl (HTs.out _ (below_step Seq.way hbr.out)) (fun b h _ => ⟨⟨h.1, h.2⟩, .inl (by omega)⟩) rfl (by omega) (by omega) (by simp) ?_))
      intro ao5 cap5 w5 hown5 hk5
      have H5 := Lib.hid hown5
      have B5 := Lib.hid (hbr.out.trans (Below.mono (Below.trans (Seq.way : Below wr.heap.size wr _) hk5.below) hzW))
      have z5 : wr.heap.size ≤ w5.heap.size := Nat.le_trans (by simp) hk5.below.size

      clear hown5 hk5
      go_wp2_with (at_builtin; (refine wpList_app_int (wm := w5) (y := n) rfl _ _ 36 rfl Tryz.underlying36 infoInt rfl H5.out rfl Seq.way hn ((Row.new _ [_] _ rfl).cell (j := 0) (by simp)) (by omega) z5 ?_))
      intro ao6 cap6 w6 hown6 hk6
      have H6 := Lib.hid hown6
      have B6 := Lib.hid (B5.out.trans (Below.mono (Below.trans (Below.mono (Seq.way : Below w5.heap.size w5 _) z5) hk6.below) hzW))
      have z6 : wr.heap.size ≤ w6.heap.size := Nat.le_trans z5 (Nat.le_trans (by simp) hk6.below.size)
      clear hown6 hk6
      obtain ⟨Z, hZ⟩ : ∃ Z, Z = (T1 ++ [n]) ++ D1 := ⟨_, rfl⟩
      have HZ := Lib.hid hZ
      have hZl : Z.length = l.length + 1 := by rw [hZ]; simp; omega
      clear hZ
      go_wp2_with (at_builtin; go_loud (refine wpList_appL (E := intE) (S := fun b => (S b) ∧ b < w.heap.size) (base := wr.heap.size) (wm := w6) (zs := Z) rfl _ _ 36 rfl Tryz.underlying36 infoInt rfl rfl H6.out (Seq.way) rfl (HDs.out _ (below_step Seq.way B6.out)) (fun b h _ => ⟨⟨h.1, h.2⟩, .inl (by omega)⟩) HZ.out (by omega) (by omega) z6 ?_))
      intro ao7 cap7 w7 hown7 hk7
      have H7 := Lib.hid hown7
      have B7 := Lib.hid (B6.out.trans (Below.mono (Below.trans (Below.mono (Seq.way : Below w6.heap.size w6 _) z6) hk7.below) hzW))
      clear hown7 hk7
      go_wp2_with fail
      go_ret
      refine ⟨_, rfl, B7.out, ?_⟩
      rw [Hfin.out, ← HZ.out]
      exact H7.out.seq (by omega) fun b _ h => h.imp (fun h => h.1) fun h => Nat.le_trans hzW h
set_option maxHeartbeats 6400000 in
set_option maxRecDepth 100000 in
theorem PutT_spec {S T : Nat → Prop} {w : World} {v u : Value} {l : List (List Cell)} {t : List Cell} (hl : Seq (seqE cellE) S w v l) (ht : Seq cellE T w u t) (hlen : l.length ≤ 1000000) :
    Calls Tryz.prog 41 #[v, u] w (Ret (fun o w' => Seq (seqE cellE) (Fr (fun b => S b ∨ T b) w) w' o (insC cmpR t l)) w) := by
  have HL := Lib.hid hl.bnd
  have Hl := Lib.hid hl
  have HT := Lib.hid ht.bnd
  obtain ⟨ta, tc, rfl⟩ := ht.shape
  obtain ⟨aa, ac, rfl, hac, ham, -, -, h5⟩ := hl
  have HA := Lib.hid h5
  clear h5 ht
  go_enter Tryz.func41, Tryz.ntmps41
  go_wp2_with fail
  go_loopw [5] (fun i wr => ∃ k : Nat, k ≤ l.length ∧ i = .int .i64 k ∧ Hid (∀ j (hj : j < l.length), j < k → cmpR l[j] t < 0) ∧ Hid (Below w.heap.size w wr)) (fun i _ => l.length - (intOf i).toNat)
  case atStart => exact ⟨0, Nat.zero_le _, rfl, Lib.hid (fun j _ h => absurd h (Nat.not_lt_zero _)), Lib.hid Seq.way⟩
  case round =>
    obtain ⟨k, hk, rfl, hno, hbr⟩ := hrel
    have hzr := hbr.out.size
    by_cases hlt : k < l.length
    · obtain ⟨b, off, p1, n1, rfl, hS, hb, hc, hX⟩ := (HA.out.below hbr.out fun _ _ h => h).seq hlt
      have HX := Lib.hid hX
      clear hX
      have hkl : (k : Int) < (l.length : Int) := by omega
      have hk0 : (0 : Int) ≤ (k : Int) := by omega
      have hst := Lib.hid (fun hc : cmpR l[k] t < 0 => show ∀ j (hj : j < l.length), j < k + 1 → cmpR l[j] t < 0 from fun j hj hjk => by
        by_cases e : j = k
        · subst e; exact hc
        · exact hno.out j hj (by omega))
      have hlow := Lib.hid (fun hc : ¬ cmpR l[k] t < 0 => lowC_first (c := cmpR) (x := t) (by omega) hno.out (fun _ h => hc h))
      have hmis := Lib.hid (fun (h1 : ¬ cmpR l[k] t < 0) (h2 : cmpR l[k] t ≠ 0) => show insC cmpR t l = (l.take k ++ [t]) ++ l.drop k by
        have := insC_mis (c := cmpR) (x := t) (l := l) (by rw [hlow.out h1]; intro _; exact h2)
        rwa [hlow.out h1] at this)
      have hhit := Lib.hid (fun (h1 : ¬ cmpR l[k] t < 0) (h2 : cmpR l[k] t = 0) => show insC cmpR t l = l from
        insC_hit (c := cmpR) (x := t) (l := l) (by rw [hlow.out h1]; exact hlt) (by simp only [hlow.out h1]; exact h2))
      obtain ⟨y, hy⟩ : ∃ y, y = l[k] := ⟨_, rfl⟩
      rw [← hy] at HX hst hlow hmis hhit hc
      clear hy hlow
      go_wp2_with fail
      refine (CompareR_spec HX.out ((HT.out.at hbr.out))).mono ?_
      rintro e w3 ⟨rfl, hb3⟩
      have B3 := Lib.hid (below_step hb3 hbr.out)
      have HX3 := Lib.hid (HX.out.at hb3)
      have hc3 := (hb3.cell (p := ⟨b, off + k, none⟩) hb).trans hc
      have hb3' : b < w3.heap.size := Nat.lt_of_lt_of_le hb hb3.size
      clear hc hb HX
      by_cases hx : cmpR y t < 0
      · have hst2 := Lib.hid (hst.out hx)
        go_wp2_with fail
        go_roundw
        case rel => exact ⟨k + 1, hlt, by go_num, hst2, B3⟩
        case measure => simp [intOf]; omega
      · have hx0 := Lib.hid hx
        go_wp2_with fail
        refine (CompareR_spec HX3.out ((HT.out.at B3.out))).mono ?_
        rintro e w4 ⟨rfl, hb4⟩
        have B4 := Lib.hid (below_step hb4 B3.out)
        clear hc3
        by_cases he : cmpR y t = 0
        · have hh := Lib.hid (hhit.out (by first | exact hx0.out | (have h9 := hx0.out; omega)) he)
          have hebb : (cmpR y t == 0) = true := by simp [he]
          clear he
          go_wp2_with fail
          go_ret
          refine ⟨_, rfl, B4.out, ?_⟩
          rw [hh.out]
          exact (Hl.out.at B4.out).mono (fun _ h _ => .inl (.inl h)) fun _ _ _ => rfl
        · have hm := Lib.hid (hmis.out (by first | exact hx0.out | (have h9 := hx0.out; omega)) he)
          have hebb : (cmpR y t == 0) = false := by simp [he]
          clear he hmis hhit hst hx0 hbr B3 hzr
          have hfin := Lib.hid hm.out
          have hkc : (k : Int) ≤ (ac : Int) := by omega
          have hkl2 : (k : Int) ≤ (l.length : Int) := by omega
          have hk00 : (0 : Int) ≤ (k : Int) := by omega
          obtain ⟨T1, hT1⟩ : ∃ T1, T1 = l.take k := ⟨_, rfl⟩
          obtain ⟨D1, hD1⟩ : ∃ D1, D1 = l.drop k := ⟨_, rfl⟩
          have hTl : T1.length = k := by rw [hT1, List.length_take]; omega
          have hDl : D1.length = l.length - k := by rw [hD1, List.length_drop]
          have HTs := Lib.hid (fun (W' : World) (h : Below w.heap.size w W') => (show Seq (seqE cellE) (fun b => S b ∧ b < w.heap.size) W' (.slice (some ⟨b, off, none⟩) k ac) T1 by rw [hT1]; exact (HL.out.at h).take (by omega)))
          have hif : (if ac = k then ((some ⟨b, off, none⟩) : Option Addr) else some ⟨b, off + k, none⟩) = some ⟨b, off + k, none⟩ := if_neg (by omega)
          have HDs := Lib.hid (fun (W' : World) (h : Below w.heap.size w W') => (show Seq (seqE cellE) (fun b => S b ∧ b < w.heap.size) W' (.slice (some ⟨b, off + k, none⟩) (l.length - k) (ac - k)) D1 by rw [hD1]; exact (HL.out.at h).drop (i := k) (by omega) (bo := some ⟨b, off + k, none⟩) (hif.symm.trans (by simp [Addr.add_lit, seqE])) rfl rfl))

          have Hfin := Lib.hid (show insC cmpR t l = (T1 ++ [t]) ++ D1 by rw [hT1, hD1]; exact hfin.out)
          have hzW := B4.out.size
          clear hfin hT1 hD1

          go_wp2_with (at_builtin; go_loud (refine wpList_appL (E := seqE cellE) (S := fun b => (S b ∨ T b) ∧ b < w.heap.size) (base := w4.heap.size) (wm := w4.alloc (.cells #[] 33)) (zs := T1) rfl _ _ 23 rfl Tryz.underlying23 infoSeq rfl rfl (Own.lit0 rfl (Nat.le_refl _) rfl) (Below.refl _ _) rfl (HTs.out _ (below_step Seq.way B4.out)) (fun b h _ => ⟨⟨.inl h.1, h.2⟩, .inl (by omega)⟩) rfl (by omega) (by omega) (by simp) ?_))
          intro ao5 cap5 w5 hown5 hk5
          have H5 := Lib.hid hown5
          have B5 := Lib.hid (B4.out.trans (Below.mono (Below.trans (Seq.way : Below w4.heap.size w4 _) hk5.below) hzW))
          have z5 : w4.heap.size ≤ w5.heap.size := Nat.le_trans (by simp) hk5.below.size

          clear hown5 hk5
          have HT5 := Lib.hid (HT.out.at B5.out)
          go_wp2_with (at_builtin; (refine wpList_app_seq (E := cellE) (Sy := fun b => T b ∧ b < w.heap.size) (wm := w5) (y := t) (vy := .slice ta t.length tc) rfl _ _ 23 rfl Tryz.underlying23 infoSeq rfl H5.out rfl Seq.way (HT5.out.at Seq.way) (fun b h _ => ⟨⟨.inr h.1, h.2⟩, .inl (by omega)⟩) ((Row.new _ [_] _ rfl).cell (j := 0) (by simp)) (by omega) z5 ?_))
          intro ao6 cap6 w6 hown6 hk6
          have H6 := Lib.hid hown6
          have B6 := Lib.hid (B5.out.trans (Below.mono (Below.trans (Below.mono (Seq.way : Below w5.heap.size w5 _) z5) hk6.below) hzW))
          have z6 : w4.heap.size ≤ w6.heap.size := Nat.le_trans z5 (Nat.le_trans (by simp) hk6.below.size)
          clear hown6 hk6
          obtain ⟨Z, hZ⟩ : ∃ Z, Z = (T1 ++ [t]) ++ D1 := ⟨_, rfl⟩
          have HZ := Lib.hid hZ
          have hZl : Z.length = l.length + 1 := by rw [hZ]; simp; omega
          clear hZ
          go_wp2_with (at_builtin; go_loud (refine wpList_appL (E := seqE cellE) (S := fun b => (S b ∨ T b) ∧ b < w.heap.size) (base := w4.heap.size) (wm := w6) (zs := Z) rfl _ _ 23 rfl Tryz.underlying23 infoSeq rfl rfl H6.out (Seq.way) rfl (HDs.out _ (below_step Seq.way B6.out)) (fun b h _ => ⟨⟨.inl h.1, h.2⟩, .inl (by omega)⟩) HZ.out (by omega) (by omega) z6 ?_))
          intro ao7 cap7 w7 hown7 hk7
          have H7 := Lib.hid hown7
          have B7 := Lib.hid (B6.out.trans (Below.mono (Below.trans (Below.mono (Seq.way : Below w6.heap.size w6 _) z6) hk7.below) hzW))
          clear hown7 hk7
          go_wp2_with fail
          go_ret
          refine ⟨_, rfl, B7.out, ?_⟩
          rw [Hfin.out, ← HZ.out]
          exact H7.out.seq (by omega) fun b _ h => h.imp (fun h => h.1) fun h => Nat.le_trans hzW h
    · have hkl : ¬ ((k : Int) < (l.length : Int)) := by omega
      have hm := Lib.hid (show insC cmpR t l = (l.take k ++ [t]) ++ l.drop k by
        have hlow := lowC_first (c := cmpR) (x := t) (by omega) hno.out (fun h => absurd h hlt)
        have := insC_mis (c := cmpR) (x := t) (l := l) (by rw [hlow]; intro h; exact absurd h hlt)
        rwa [hlow] at this)
      have hfin := Lib.hid hm.out
      have hkc : (k : Int) ≤ (ac : Int) := by omega
      have hkl2 : (k : Int) ≤ (l.length : Int) := by omega
      have hk00 : (0 : Int) ≤ (k : Int) := by omega
      obtain ⟨T1, hT1⟩ : ∃ T1, T1 = l.take k := ⟨_, rfl⟩
      obtain ⟨D1, hD1⟩ : ∃ D1, D1 = l.drop k := ⟨_, rfl⟩
      have hTl : T1.length = k := by rw [hT1, List.length_take]; omega
      have hDl : D1.length = l.length - k := by rw [hD1, List.length_drop]
      have HTs := Lib.hid (fun (W' : World) (h : Below w.heap.size w W') => (show Seq (seqE cellE) (fun b => S b ∧ b < w.heap.size) W' (.slice aa k ac) T1 by rw [hT1]; exact (HL.out.at h).take (by omega)))
      obtain ⟨SB, hif⟩ : ∃ SB, (if ac = k then aa else aa.map (fun x => x.add (k))) = SB := ⟨_, rfl⟩
      have HDs := Lib.hid (fun (W' : World) (h : Below w.heap.size w W') => (show Seq (seqE cellE) (fun b => S b ∧ b < w.heap.size) W' (.slice SB (l.length - k) (ac - k)) D1 by rw [hD1]; exact (HL.out.at h).drop (i := k) (by omega) (bo := SB) (hif.symm.trans (by simp [seqE])) rfl rfl))
      have Hfin := Lib.hid (show insC cmpR t l = (T1 ++ [t]) ++ D1 by rw [hT1, hD1]; exact hfin.out)
      have hzW := hbr.out.size
      clear hfin hT1 hD1

      go_wp2_with (at_builtin; go_loud (refine wpList_appL (E := seqE cellE) (S := fun b => (S b ∨ T b) ∧ b < w.heap.size) (base := wr.heap.size) (wm := wr.alloc (.cells #[] 33)) (zs := T1) rfl _ _ 23 rfl Tryz.underlying23 infoSeq rfl rfl (Own.lit0 rfl (Nat.le_refl _) rfl) (Below.refl _ _) rfl (HTs.out _ (below_step Seq.way hbr.out)) (fun b h _ => ⟨⟨.inl h.1, h.2⟩, .inl (by omega)⟩) rfl (by omega) (by omega) (by simp) ?_))
      intro ao5 cap5 w5 hown5 hk5
      have H5 := Lib.hid hown5
      have B5 := Lib.hid (hbr.out.trans (Below.mono (Below.trans (Seq.way : Below wr.heap.size wr _) hk5.below) hzW))
      have z5 : wr.heap.size ≤ w5.heap.size := Nat.le_trans (by simp) hk5.below.size

      clear hown5 hk5
      have HT5 := Lib.hid (HT.out.at B5.out)
      go_wp2_with (at_builtin; (refine wpList_app_seq (E := cellE) (Sy := fun b => T b ∧ b < w.heap.size) (wm := w5) (y := t) (vy := .slice ta t.length tc) rfl _ _ 23 rfl Tryz.underlying23 infoSeq rfl H5.out rfl Seq.way (HT5.out.at Seq.way) (fun b h _ => ⟨⟨.inr h.1, h.2⟩, .inl (by omega)⟩) ((Row.new _ [_] _ rfl).cell (j := 0) (by simp)) (by omega) z5 ?_))
      intro ao6 cap6 w6 hown6 hk6
      have H6 := Lib.hid hown6
      have B6 := Lib.hid (B5.out.trans (Below.mono (Below.trans (Below.mono (Seq.way : Below w5.heap.size w5 _) z5) hk6.below) hzW))
      have z6 : wr.heap.size ≤ w6.heap.size := Nat.le_trans z5 (Nat.le_trans (by simp) hk6.below.size)
      clear hown6 hk6
      obtain ⟨Z, hZ⟩ : ∃ Z, Z = (T1 ++ [t]) ++ D1 := ⟨_, rfl⟩
      have HZ := Lib.hid hZ
      have hZl : Z.length = l.length + 1 := by rw [hZ]; simp; omega
      clear hZ
      go_wp2_with (at_builtin; go_loud (refine wpList_appL (E := seqE cellE) (S := fun b => (S b ∨ T b) ∧ b < w.heap.size) (base := wr.heap.size) (wm := w6) (zs := Z) rfl _ _ 23 rfl Tryz.underlying23 infoSeq rfl rfl H6.out (Seq.way) rfl (HDs.out _ (below_step Seq.way B6.out)) (fun b h _ => ⟨⟨.inl h.1, h.2⟩, .inl (by omega)⟩) HZ.out (by omega) (by omega) z6 ?_))
      intro ao7 cap7 w7 hown7 hk7
      have H7 := Lib.hid hown7
      have B7 := Lib.hid (B6.out.trans (Below.mono (Below.trans (Below.mono (Seq.way : Below w6.heap.size w6 _) z6) hk7.below) hzW))
      clear hown7 hk7
      go_wp2_with fail
      go_ret
      refine ⟨_, rfl, B7.out, ?_⟩
      rw [Hfin.out, ← HZ.out]
      exact H7.out.seq (by omega) fun b _ h => h.imp (fun h => h.1) fun h => Nat.le_trans hzW h
set_option maxHeartbeats 6400000 in
set_option maxRecDepth 100000 in
theorem PutU_spec {S T : Nat → Prop} {w : World} {v u : Value} {l : List (Rule)} {r : Rule} (hl : Seq (ruleE) S w v l) (ht : RulV T w u r) (hsl : ∀ y ∈ l, SmU y) (hsr : SmU r) (hlen : l.length ≤ 1000000) :
    Calls Tryz.prog 42 #[v, u] w (Ret (fun o w' => Seq (ruleE) (Fr (fun b => S b ∨ T b) w) w' o (insC cmpU r l)) w) := by
  have HL := Lib.hid hl.bnd
  have Hl := Lib.hid hl
  have HV := Lib.hid ht
  obtain ⟨pv, nv, rfl, hrk, hp, hn⟩ := ht
  have HP := Lib.hid hp.bnd
  have HN := Lib.hid hn.bnd
  obtain ⟨pa, pc, rfl⟩ := hp.shape
  obtain ⟨na, nc, rfl⟩ := hn.shape
  clear hp hn
  obtain ⟨aa, ac, rfl, hac, ham, -, -, h5⟩ := hl
  have HA := Lib.hid h5
  clear h5
  go_enter Tryz.func42, Tryz.ntmps42
  go_wp2_with fail
  go_loopw [5] (fun i wr => ∃ k : Nat, k ≤ l.length ∧ i = .int .i64 k ∧ Hid (∀ j (hj : j < l.length), j < k → cmpU l[j] r < 0) ∧ Hid (Below w.heap.size w wr) ∧ Hid (Row 46 wr w.heap.size [.int .i64 r.head, .slice pa r.pos.length pc, .slice na r.neg.length nc])) (fun i _ => l.length - (intOf i).toNat)
  case atStart => exact ⟨0, Nat.zero_le _, rfl, Lib.hid (fun j _ h => absurd h (Nat.not_lt_zero _)), Lib.hid Seq.way, Lib.hid (Row.new w [_, _, _] _ rfl)⟩
  case round =>
    obtain ⟨k, hk, rfl, hno, hbr, hrow⟩ := hrel
    have hzr := hbr.out.size
    by_cases hlt : k < l.length
    · obtain ⟨b, off, p1, p2, q1, q2, rfl, hS, hb, hc0, hc1, hc2, hiok, hX, hY⟩ := (HA.out.below hbr.out fun _ _ h => h).rule hlt
      have HX := Lib.hid (show RulV S wr (.agg #[.int .i64 l[k].head, .slice p1 l[k].pos.length p2, .slice q1 l[k].neg.length q2]) l[k] from ⟨_, _, rfl, hiok, hX, hY⟩)
      have hsk := Lib.hid (hsl _ (List.getElem_mem hlt))
      clear hX hY
      have hkl : (k : Int) < (l.length : Int) := by omega
      have hk0 : (0 : Int) ≤ (k : Int) := by omega
      have hst := Lib.hid (fun hc : cmpU l[k] r < 0 => show ∀ j (hj : j < l.length), j < k + 1 → cmpU l[j] r < 0 from fun j hj hjk => by
        by_cases e : j = k
        · subst e; exact hc
        · exact hno.out j hj (by omega))
      have hlow := Lib.hid (fun hc : ¬ cmpU l[k] r < 0 => lowC_first (c := cmpU) (x := r) (by omega) hno.out (fun _ h => hc h))
      have hmis := Lib.hid (fun (h1 : ¬ cmpU l[k] r < 0) (h2 : cmpU l[k] r ≠ 0) => show insC cmpU r l = (l.take k ++ [r]) ++ l.drop k by
        have := insC_mis (c := cmpU) (x := r) (l := l) (by rw [hlow.out h1]; intro _; exact h2)
        rwa [hlow.out h1] at this)
      have hhit := Lib.hid (fun (h1 : ¬ cmpU l[k] r < 0) (h2 : cmpU l[k] r = 0) => show insC cmpU r l = l from
        insC_hit (c := cmpU) (x := r) (l := l) (by rw [hlow.out h1]; exact hlt) (by simp only [hlow.out h1]; exact h2))
      obtain ⟨y, hy⟩ : ∃ y, y = l[k] := ⟨_, rfl⟩
      rw [← hy] at HX hst hlow hmis hhit hc0 hc1 hc2 hsk
      clear hy hlow
      have r0 := hrow.out.cell (j := 0) (by simp)
      have r1 := hrow.out.cell (j := 1) (by simp)
      have r2 := hrow.out.cell (j := 2) (by simp)
      simp only [List.getElem_cons_zero, List.getElem_cons_succ] at r0 r1 r2
      have l0 := hrow.out.lt
      go_wp2_with fail
      go_still_tail 10, (by kernel_rfl)
      go_wp2_with fail
      refine (OrderR_spec (HX.out.at Seq.way) ((HV.out.at hbr.out).at Seq.way) hsk.out hsr).mono ?_
      rintro e w3 ⟨_, rfl, hb3, r3, rfl, hs3⟩
      replace hb3 := below_step hb3 (Seq.way : Below wr.heap.size wr _)
      have hrow3 := Lib.hid (rowTo hrow.out hb3)
      have l3 := hrow3.out.lt
      clear r0 r1 r2 l0
      have HS3 := Lib.hid hs3
      clear hs3
      have B3 := Lib.hid (below_step hb3 hbr.out)
      have HX3 := Lib.hid (HX.out.at hb3)
      have hc03 := (hb3.cell (p := ⟨b, off + k * 3, none⟩) hb).trans hc0
      have hc13 := (hb3.cell (p := ⟨b, off + k * 3 + 1, none⟩) hb).trans hc1
      have hc23 := (hb3.cell (p := ⟨b, off + k * 3 + 2, none⟩) hb).trans hc2
      have hb3' : b < w3.heap.size := Nat.lt_of_lt_of_le hb hb3.size
      clear hc0 hc1 hc2 hb HX
      by_cases hx : r3 < 0
      · have hst2 := Lib.hid (hst.out (HS3.out.1.1 hx))
        go_wp2_with fail
        go_roundw
        case rel => exact ⟨k + 1, hlt, by go_num, hst2, B3, hrow3⟩
        case measure => simp [intOf]; omega
      · have hx0 := Lib.hid (show ¬ cmpU y r < 0 from fun h => hx (HS3.out.1.2 h))
        have r0 := hrow3.out.cell (j := 0) (by simp)
        have r1 := hrow3.out.cell (j := 1) (by simp)
        have r2 := hrow3.out.cell (j := 2) (by simp)
        simp only [List.getElem_cons_zero, List.getElem_cons_succ] at r0 r1 r2
        go_wp2_with fail
        go_still_tail 10, (by kernel_rfl)
        go_wp2_with fail
        refine (OrderR_spec (HX3.out.at Seq.way) ((HV.out.at B3.out).at Seq.way) hsk.out hsr).mono ?_
        rintro e w4 ⟨_, rfl, hb4, r4, rfl, hs4⟩
        replace hb4 := below_step hb4 (Seq.way : Below w3.heap.size w3 _)
        have HS4 := Lib.hid hs4
        have hrow4 := Lib.hid (rowTo hrow3.out hb4)
        clear hs4 r0 r1 r2 l3
        have B4 := Lib.hid (below_step hb4 B3.out)
        clear hc03 hc13 hc23
        by_cases he : r4 = 0
        · have hh := Lib.hid (hhit.out (by first | exact hx0.out | (have h9 := hx0.out; omega)) (HS4.out.2.1 he))
          have hebb : (r4 == 0) = true := by simp [he]
          clear he
          go_wp2_with fail
          go_ret
          refine ⟨_, rfl, B4.out, ?_⟩
          rw [hh.out]
          exact (Hl.out.at B4.out).mono (fun _ h _ => .inl (.inl h)) fun _ _ _ => rfl
        · have hm := Lib.hid (hmis.out (by first | exact hx0.out | (have h9 := hx0.out; omega)) (fun h => he (HS4.out.2.2 h)))
          have hebb : (r4 == 0) = false := by simp [he]
          clear he hmis hhit hst hx0 hbr B3 hzr
          have hfin := Lib.hid hm.out
          have hkc : (k : Int) ≤ (ac : Int) := by omega
          have hkl2 : (k : Int) ≤ (l.length : Int) := by omega
          have hk00 : (0 : Int) ≤ (k : Int) := by omega
          obtain ⟨T1, hT1⟩ : ∃ T1, T1 = l.take k := ⟨_, rfl⟩
          obtain ⟨D1, hD1⟩ : ∃ D1, D1 = l.drop k := ⟨_, rfl⟩
          have hTl : T1.length = k := by rw [hT1, List.length_take]; omega
          have hDl : D1.length = l.length - k := by rw [hD1, List.length_drop]
          have HTs := Lib.hid (fun (W' : World) (h : Below w.heap.size w W') => (show Seq (ruleE) (fun b => S b ∧ b < w.heap.size) W' (.slice (some ⟨b, off, none⟩) k ac) T1 by rw [hT1]; exact (HL.out.at h).take (by omega)))
          have hif : (if ac = k then ((some ⟨b, off, none⟩) : Option Addr) else some ⟨b, off + k * 3, none⟩) = some ⟨b, off + k * 3, none⟩ := if_neg (by omega)
          have HDs := Lib.hid (fun (W' : World) (h : Below w.heap.size w W') => (show Seq (ruleE) (fun b => S b ∧ b < w.heap.size) W' (.slice (some ⟨b, off + k * 3, none⟩) (l.length - k) (ac - k)) D1 by rw [hD1]; exact (HL.out.at h).drop (i := k) (by omega) (bo := some ⟨b, off + k * 3, none⟩) (hif.symm.trans (by simp [Addr.add_lit, ruleE])) rfl rfl))

          have Hfin := Lib.hid (show insC cmpU r l = (T1 ++ [r]) ++ D1 by rw [hT1, hD1]; exact hfin.out)
          have hzW := B4.out.size
          clear hfin hT1 hD1
          have r0 := hrow4.out.cell (j := 0) (by simp)
          have r1 := hrow4.out.cell (j := 1) (by simp)
          have r2 := hrow4.out.cell (j := 2) (by simp)
          simp only [List.getElem_cons_zero, List.getElem_cons_succ] at r0 r1 r2
          have l4 := hrow4.out.lt
          go_wp2_with (at_builtin; go_loud (refine wpList_appL (E := ruleE) (S := fun b => (S b ∨ T b) ∧ b < w.heap.size) (base := w4.heap.size) (wm := w4.alloc (.cells #[] 46)) (zs := T1) rfl _ _ 24 rfl Tryz.underlying24 infoRule rfl rfl (Own.lit0 rfl (Nat.le_refl _) rfl) (Below.refl _ _) rfl (HTs.out _ (below_step Seq.way B4.out)) (fun b h _ => ⟨⟨.inl h.1, h.2⟩, .inl (by omega)⟩) rfl (by omega) (by omega) (by simp) ?_))
          intro ao5 cap5 w5 hown5 hk5
          have H5 := Lib.hid hown5
          have B5 := Lib.hid (B4.out.trans (Below.mono (Below.trans (Seq.way : Below w4.heap.size w4 _) hk5.below) hzW))
          have z5 : w4.heap.size ≤ w5.heap.size := Nat.le_trans (by simp) hk5.below.size
          have hrow5 := Lib.hid (rowTo hrow4.out (Below.trans (Seq.way : Below w4.heap.size w4 _) hk5.below))
          clear r0 r1 r2 l4
          clear hown5 hk5
          have r0 := hrow5.out.cell (j := 0) (by simp)
          have r1 := hrow5.out.cell (j := 1) (by simp)
          have r2 := hrow5.out.cell (j := 2) (by simp)
          simp only [List.getElem_cons_zero, List.getElem_cons_succ] at r0 r1 r2
          have l5 := hrow5.out.lt
          have HP5 := Lib.hid (HP.out.at B5.out)
          have HN5 := Lib.hid (HN.out.at B5.out)
          go_wp2_with (at_builtin; (refine wpList_app_rule (Sy := fun b => T b ∧ b < w.heap.size) (wm := w5) (y := r) (vp := .slice pa r.pos.length pc) (vn := .slice na r.neg.length nc) rfl _ _ 24 rfl Tryz.underlying24 infoRule rfl H5.out rfl Seq.way hrk (HP5.out.at Seq.way) (HN5.out.at Seq.way) (fun b h _ => ⟨⟨.inr h.1, h.2⟩, .inl (by omega)⟩) ((Row.new _ [_, _, _] _ rfl).cell (j := 0) (by simp)) ((Row.new _ [_, _, _] _ rfl).cell (j := 1) (by simp)) ((Row.new _ [_, _, _] _ rfl).cell (j := 2) (by simp)) (by omega) z5 ?_))
          intro ao6 cap6 w6 hown6 hk6
          have H6 := Lib.hid hown6
          have B6 := Lib.hid (B5.out.trans (Below.mono (Below.trans (Below.mono (Seq.way : Below w5.heap.size w5 _) z5) hk6.below) hzW))
          have z6 : w4.heap.size ≤ w6.heap.size := Nat.le_trans z5 (Nat.le_trans (by simp) hk6.below.size)
          clear hown6 hk6
          obtain ⟨Z, hZ⟩ : ∃ Z, Z = (T1 ++ [r]) ++ D1 := ⟨_, rfl⟩
          have HZ := Lib.hid hZ
          have hZl : Z.length = l.length + 1 := by rw [hZ]; simp; omega
          clear hZ
          go_wp2_with (at_builtin; go_loud (refine wpList_appL (E := ruleE) (S := fun b => (S b ∨ T b) ∧ b < w.heap.size) (base := w4.heap.size) (wm := w6) (zs := Z) rfl _ _ 24 rfl Tryz.underlying24 infoRule rfl rfl H6.out (Seq.way) rfl (HDs.out _ (below_step Seq.way B6.out)) (fun b h _ => ⟨⟨.inl h.1, h.2⟩, .inl (by omega)⟩) HZ.out (by omega) (by omega) z6 ?_))
          intro ao7 cap7 w7 hown7 hk7
          have H7 := Lib.hid hown7
          have B7 := Lib.hid (B6.out.trans (Below.mono (Below.trans (Below.mono (Seq.way : Below w6.heap.size w6 _) z6) hk7.below) hzW))
          clear hown7 hk7
          go_wp2_with fail
          go_ret
          refine ⟨_, rfl, B7.out, ?_⟩
          rw [Hfin.out, ← HZ.out]
          exact H7.out.seq (by omega) fun b _ h => h.imp (fun h => h.1) fun h => Nat.le_trans hzW h
    · have hkl : ¬ ((k : Int) < (l.length : Int)) := by omega
      have hm := Lib.hid (show insC cmpU r l = (l.take k ++ [r]) ++ l.drop k by
        have hlow := lowC_first (c := cmpU) (x := r) (by omega) hno.out (fun h => absurd h hlt)
        have := insC_mis (c := cmpU) (x := r) (l := l) (by rw [hlow]; intro h; exact absurd h hlt)
        rwa [hlow] at this)
      go_wp2_with fail
      go_quiet (fail)
      obtain ⟨wq, hwq⟩ : ∃ wq, wq = wr.drewN nq := ⟨_, rfl⟩
      rw [← hwq]
      have hbq := Lib.hid (show Below w.heap.size w wq by rw [hwq]; exact below_drewN hbr.out nq)
      have hrq := Lib.hid (rowTo hrow.out (show Below wr.heap.size wr wq by rw [hwq]; exact below_drewN (Below.refl _ _) nq))
      clear hwq
      go_wp2_with fail
      go_quiet (fail)
      obtain ⟨wq2, hwq⟩ : ∃ wq2, wq2 = wq.drewN nq := ⟨_, rfl⟩
      rw [← hwq]
      have hbq2 := Lib.hid (show Below w.heap.size w wq2 by rw [hwq]; exact below_drewN hbq.out nq)
      have hrq2 := Lib.hid (rowTo hrq.out (show Below wq.heap.size wq wq2 by rw [hwq]; exact below_drewN (Below.refl _ _) nq))
      clear hwq hbq hrq hbr hrow hzr
      have hfin := Lib.hid hm.out
      have hkc : (k : Int) ≤ (ac : Int) := by omega
      have hkl2 : (k : Int) ≤ (l.length : Int) := by omega
      have hk00 : (0 : Int) ≤ (k : Int) := by omega
      obtain ⟨T1, hT1⟩ : ∃ T1, T1 = l.take k := ⟨_, rfl⟩
      obtain ⟨D1, hD1⟩ : ∃ D1, D1 = l.drop k := ⟨_, rfl⟩
      have hTl : T1.length = k := by rw [hT1, List.length_take]; omega
      have hDl : D1.length = l.length - k := by rw [hD1, List.length_drop]
      have HTs := Lib.hid (fun (W' : World) (h : Below w.heap.size w W') => (show Seq (ruleE) (fun b => S b ∧ b < w.heap.size) W' (.slice aa k ac) T1 by rw [hT1]; exact (HL.out.at h).take (by omega)))
      obtain ⟨SB, hif⟩ : ∃ SB, (if ac = k then aa else aa.map (fun x => x.add (k * 3))) = SB := ⟨_, rfl⟩
      have HDs := Lib.hid (fun (W' : World) (h : Below w.heap.size w W') => (show Seq (ruleE) (fun b => S b ∧ b < w.heap.size) W' (.slice SB (l.length - k) (ac - k)) D1 by rw [hD1]; exact (HL.out.at h).drop (i := k) (by omega) (bo := SB) (hif.symm.trans (by simp [ruleE])) rfl rfl))
      have Hfin := Lib.hid (show insC cmpU r l = (T1 ++ [r]) ++ D1 by rw [hT1, hD1]; exact hfin.out)
      have hzW := hbq2.out.size
      clear hfin hT1 hD1
      have r0 := hrq2.out.cell (j := 0) (by simp)
      have r1 := hrq2.out.cell (j := 1) (by simp)
      have r2 := hrq2.out.cell (j := 2) (by simp)
      simp only [List.getElem_cons_zero, List.getElem_cons_succ] at r0 r1 r2
      have l4 := hrq2.out.lt
      go_wp2_with (at_builtin; go_loud (refine wpList_appL (E := ruleE) (S := fun b => (S b ∨ T b) ∧ b < w.heap.size) (base := wq2.heap.size) (wm := wq2.alloc (.cells #[] 46)) (zs := T1) rfl _ _ 24 rfl Tryz.underlying24 infoRule rfl rfl (Own.lit0 rfl (Nat.le_refl _) rfl) (Below.refl _ _) rfl (HTs.out _ (below_step Seq.way hbq2.out)) (fun b h _ => ⟨⟨.inl h.1, h.2⟩, .inl (by omega)⟩) rfl (by omega) (by omega) (by simp) ?_))
      intro ao5 cap5 w5 hown5 hk5
      have H5 := Lib.hid hown5
      have B5 := Lib.hid (hbq2.out.trans (Below.mono (Below.trans (Seq.way : Below wq2.heap.size wq2 _) hk5.below) hzW))
      have z5 : wq2.heap.size ≤ w5.heap.size := Nat.le_trans (by simp) hk5.below.size
      have hrow5 := Lib.hid (rowTo hrq2.out (Below.trans (Seq.way : Below wq2.heap.size wq2 _) hk5.below))
      clear r0 r1 r2 l4
      clear hown5 hk5
      have r0 := hrow5.out.cell (j := 0) (by simp)
      have r1 := hrow5.out.cell (j := 1) (by simp)
      have r2 := hrow5.out.cell (j := 2) (by simp)
      simp only [List.getElem_cons_zero, List.getElem_cons_succ] at r0 r1 r2
      have l5 := hrow5.out.lt
      have HP5 := Lib.hid (HP.out.at B5.out)
      have HN5 := Lib.hid (HN.out.at B5.out)
      go_wp2_with (at_builtin; (refine wpList_app_rule (Sy := fun b => T b ∧ b < w.heap.size) (wm := w5) (y := r) (vp := .slice pa r.pos.length pc) (vn := .slice na r.neg.length nc) rfl _ _ 24 rfl Tryz.underlying24 infoRule rfl H5.out rfl Seq.way hrk (HP5.out.at Seq.way) (HN5.out.at Seq.way) (fun b h _ => ⟨⟨.inr h.1, h.2⟩, .inl (by omega)⟩) ((Row.new _ [_, _, _] _ rfl).cell (j := 0) (by simp)) ((Row.new _ [_, _, _] _ rfl).cell (j := 1) (by simp)) ((Row.new _ [_, _, _] _ rfl).cell (j := 2) (by simp)) (by omega) z5 ?_))
      intro ao6 cap6 w6 hown6 hk6
      have H6 := Lib.hid hown6
      have B6 := Lib.hid (B5.out.trans (Below.mono (Below.trans (Below.mono (Seq.way : Below w5.heap.size w5 _) z5) hk6.below) hzW))
      have z6 : wq2.heap.size ≤ w6.heap.size := Nat.le_trans z5 (Nat.le_trans (by simp) hk6.below.size)
      clear hown6 hk6
      obtain ⟨Z, hZ⟩ : ∃ Z, Z = (T1 ++ [r]) ++ D1 := ⟨_, rfl⟩
      have HZ := Lib.hid hZ
      have hZl : Z.length = l.length + 1 := by rw [hZ]; simp; omega
      clear hZ
      go_wp2_with (at_builtin; go_loud (refine wpList_appL (E := ruleE) (S := fun b => (S b ∨ T b) ∧ b < w.heap.size) (base := wq2.heap.size) (wm := w6) (zs := Z) rfl _ _ 24 rfl Tryz.underlying24 infoRule rfl rfl H6.out (Seq.way) rfl (HDs.out _ (below_step Seq.way B6.out)) (fun b h _ => ⟨⟨.inl h.1, h.2⟩, .inl (by omega)⟩) HZ.out (by omega) (by omega) z6 ?_))
      intro ao7 cap7 w7 hown7 hk7
      have H7 := Lib.hid hown7
      have B7 := Lib.hid (B6.out.trans (Below.mono (Below.trans (Below.mono (Seq.way : Below w6.heap.size w6 _) z6) hk7.below) hzW))
      clear hown7 hk7
      go_wp2_with fail
      go_ret
      refine ⟨_, rfl, B7.out, ?_⟩
      rw [Hfin.out, ← HZ.out]
      exact H7.out.seq (by omega) fun b _ h => h.imp (fun h => h.1) fun h => Nat.le_trans hzW h
end Go.Proofs.YtaedgpcmkagpeaaGreat
