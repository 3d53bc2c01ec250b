/-
  Layer 16, the program: places (ground.Find), an atom's rules (Of), the program of instances (From).
-/
import Derived.Test.YtaedgpcmkagpeaaGreatGsV
import Derived.Test.YtaedgpcmkagpeaaGreatGsK
import Derived.Test.YtaedgpcmkagpeaaGreatTmT
import Derived.Test.YtaedgpcmkagpeaaGreatMtJ
namespace Go.Proofs.YtaedgpcmkagpeaaGreat
open Go Go.RowKit


/-! ### Find -/
theorem insAtT_pos {A : List (List Cell)} (hA : Srt cmpT A) {t : List Cell} (h : t ∈ A) : posT A t = (insAtT t A : Int) ∧ ∃ hk : insAtT t A < A.length, A[insAtT t A] = t := by
  obtain ⟨hk, he⟩ := (mem_insAtT (show SortT A from hA)).1 h
  have e := cmpT_zero.1 he
  have := posT_at hA hk
  rw [e] at this
  exact ⟨this, hk, e⟩
set_option maxHeartbeats 3200000 in
set_option maxRecDepth 100000 in
theorem FindP_spec {S T : Nat → Prop} {w : World} {v u : Value} {g : Prog} {t : List Cell} (hg : ProgV S w v g) (ht : Seq cellE T w u t) (hs : Srt cmpT g.atoms) (hn : g.atoms.length ≤ 1000000) :
    Calls Tryz.prog 19 #[v, u] w (RetV (.int .i64 (posT g.atoms t)) w) := by
  obtain ⟨va, vr, rfl, hA, hR⟩ := hg
  have HA := Lib.hid hA
  have HT := Lib.hid ht
  have HS := Lib.hid hs
  obtain ⟨ra, rc, rfl⟩ := hR.shape
  obtain ⟨ta, tc, rfl⟩ := ht.shape
  obtain ⟨A, hAe⟩ : ∃ A, A = g.atoms := ⟨_, rfl⟩
  rw [← hAe] at HA hA HS hn ⊢
  obtain ⟨aa, ac, rfl⟩ := hA.shape
  clear hA hAe hR ht hs
  obtain ⟨W, hW⟩ : ∃ W, W = w.alloc (.cells #[.slice aa A.length ac, .slice ra g.rules.length rc] 26) := ⟨_, rfl⟩
  have HB := Lib.hid (show Below w.heap.size w W by rw [hW]; exact Seq.way)
  have HP := Lib.hid (show Row 26 W w.heap.size [.slice aa A.length ac, .slice ra g.rules.length rc] by rw [hW]; exact Row.new w [_, _] _ rfl)
  have HW := Lib.hid hW
  clear hW
  have d0 := HP.out.cell (j := 0) (by simp)
  simp only [List.getElem_cons_zero] at d0
  go_enter Tryz.func19, Tryz.ntmps19
  go_upto_region 1 with fail
  rw [← HW.out]
  go_wp2_with fail
  refine (searchT_spec (HA.out.at HB.out) (HT.out.at HB.out) HS.out hn).mono ?_
  rintro e w1 ⟨rfl, hb1⟩
  have BW1 := Lib.hid (below_step hb1 HB.out)
  have HP1 := Lib.hid (rowTo HP.out hb1)
  clear hb1 d0
  by_cases hm : t ∈ A
  · obtain ⟨h1, h2, h3⟩ := insAtT_pos HS.out hm
    have H1 := Lib.hid h1
    have H3 := Lib.hid h3
    rw [decide_eq_true hm]
    obtain ⟨k, hk⟩ : ∃ k, k = insAtT t A := ⟨_, rfl⟩
    rw [← hk] at h2 H1 ⊢
    have h3' : A[k]'h2 = t := by simp only [hk]; exact h3
    obtain ⟨_, _, ee, -, -, -, -, x5⟩ := (HA.out.at BW1.out)
    simp only [Value.slice.injEq, true_and] at ee
    obtain ⟨rfl, rfl⟩ := ee
    obtain ⟨b, off, p1, n1, rfl, -, hb, hc, hX⟩ := x5.seq h2
    rw [h3'] at hc hX
    have HX := Lib.hid hX
    have d0 := HP1.out.cell (j := 0) (by simp)
    simp only [List.getElem_cons_zero] at d0
    have hkl : (k : Int) < (A.length : Int) := by omega
    have hk0 : (0 : Int) ≤ (k : Int) := by omega
    clear hm h1 h3 h3' hk x5 hX H3
    go_wp2_with fail
    refine (SameP_spec HX.out (HT.out.at BW1.out)).mono ?_
    rintro e w2 ⟨rfl, hq⟩
    have B2 := Lib.hid (below_step (hq.below w1.heap.size) BW1.out)
    clear hq
    rw [decide_eq_true (rfl : t = t)]
    go_wp2_with fail
    go_ret
    exact ⟨ret_int H1.out.symm, B2.out⟩
  · have H1 := Lib.hid (posT_no hm)
    rw [decide_eq_false hm]
    clear hm
    go_wp2_with fail
    go_ret
    exact ⟨ret_int H1.out.symm, BW1.out⟩

/-! ### Of -/
set_option maxHeartbeats 3200000 in
set_option maxRecDepth 100000 in
theorem OfP_spec {S : Nat → Prop} {w : World} {v : Value} {g : Prog} {a : Int} (hg : ProgV S w v g) (hl : g.rules.length ≤ 1000000000) :
    Calls Tryz.prog 22 #[v, .int .i64 a] w (Ret (fun r w' => Seq intE (fun b => w.heap.size ≤ b) w' r (ofR g a)) w) := by
  obtain ⟨va, vr, rfl, hA, hR⟩ := hg
  have HRl := Lib.hid hR
  obtain ⟨aa, ac, rfl⟩ := hA.shape
  obtain ⟨ra, rc, rfl⟩ := hR.shape
  obtain ⟨W, hW⟩ : ∃ W, W = w.alloc (.cells #[.slice aa g.atoms.length ac, .slice ra g.rules.length rc] 26) := ⟨_, rfl⟩
  have HB := Lib.hid (show Below w.heap.size w W by rw [hW]; exact Seq.way)
  have HP := Lib.hid (show Row 26 W w.heap.size [.slice aa g.atoms.length ac, .slice ra g.rules.length rc] by rw [hW]; exact Row.new w [_, _] _ rfl)
  have HW := Lib.hid hW
  clear hA hR hW
  have d1 := HP.out.cell (j := 1) (by simp)
  simp only [List.getElem_cons_zero, List.getElem_cons_succ] at d1
  go_enter Tryz.func22, Tryz.ntmps22
  go_upto_region 2 with fail
  rw [← HW.out]
  go_wp2_with fail
  go_loopw [5, 11] (fun o i wr => ∃ k : Nat, k ≤ g.rules.length ∧ i = .int .i64 k ∧ Hid (Own intE (fun _ => False) W.heap.size 3 wr o (ofR ⟨[], g.rules.take k⟩ a)) ∧ Hid (Below W.heap.size W wr)) (fun _ i _ => g.rules.length - (intOf i).toNat)
  case atStart => exact ⟨0, Nat.zero_le _, rfl, Lib.hid (Own.nil _ _ _ _ _), Lib.hid (Below.refl _ _)⟩
  case round =>
    obtain ⟨k, hk, rfl, hO, hbr⟩ := hrel
    have hzr := hbr.out.size
    have hbw := Lib.hid (below_step hbr.out HB.out)
    by_cases hlt : k < g.rules.length
    · obtain ⟨_, _, ee, -, -, -, -, x5⟩ := (HRl.out.at hbw.out)
      simp only [Value.slice.injEq, true_and] at ee
      obtain ⟨rfl, rfl⟩ := ee
      obtain ⟨b, off, pa, pc, na, nc, rfl, -, hb, hc0, hc1, hc2, -⟩ := x5.rule hlt
      have hsn := Lib.hid (ofR_snoc g.rules [] a k hlt)
      have hln := ofR_len ⟨[], g.rules.take k⟩ a
      simp only [List.length_take] at hln
      obtain ⟨O, hOe⟩ : ∃ O, O = ofR ⟨[], g.rules.take k⟩ a := ⟨_, rfl⟩
      rw [← hOe] at hO hsn hln
      obtain ⟨r, hr⟩ : ∃ r, r = g.rules[k] := ⟨_, rfl⟩
      rw [← hr] at hc0 hc1 hc2 hsn
      have hkl : (k : Int) < (g.rules.length : Int) := by omega
      have hk0 : (0 : Int) ≤ (k : Int) := by omega
      clear x5 hr hOe d1
      by_cases he : r.head = a
      · have hst := Lib.hid (show ofR ⟨[], g.rules.take (k + 1)⟩ a = O ++ [(k : Int)] by rw [hsn.out, if_pos he])
        have hd : (r.head == a) = true := by simp [he]
        clear he hsn
        go_wp2_with (at_builtin; refine wpList_app_int (wm := wr) rfl _ _ 36 rfl Tryz.underlying36 infoInt rfl hO.out rfl (y := (k : Int)) Seq.way ⟨by omega, by omega⟩ (by go_simp) (by omega) hzr ?_)
        intro ao5 cap5 w5 hown5 hk5
        have H5 := Lib.hid hown5
        have B5 := Lib.hid (hbr.out.trans (Below.trans (Below.mono (Seq.way : Below wr.heap.size wr _) hzr) hk5.below))
        clear hown5 hk5
        go_wp2_with fail
        go_roundw
        case rel => exact ⟨k + 1, hlt, by go_num, Lib.hid (by rw [hst.out]; simpa using H5.out), B5⟩
        case measure => simp [intOf]; omega
      · have hst := Lib.hid (show ofR ⟨[], g.rules.take (k + 1)⟩ a = O by rw [hsn.out, if_neg he, List.append_nil])
        have hd : (r.head == a) = false := by simp [he]
        clear he hsn
        go_wp2_with fail
        go_roundw
        case rel => exact ⟨k + 1, hlt, by go_num, Lib.hid (by rw [hst.out]; exact hO.out.move Seq.way), Lib.hid (below_step Seq.way hbr.out)⟩
        case measure => simp [intOf]; omega
    · obtain rfl : k = g.rules.length := by omega
      have hkl : ¬ (g.rules.length : Int) < (g.rules.length : Int) := by omega
      have hO2 := Lib.hid (show Own intE _ _ _ wr _ (ofR ⟨[], g.rules⟩ a) by have := hO.out; rwa [List.take_length] at this)
      have hof := Lib.hid (show ofR g a = ofR ⟨[], g.rules⟩ a from rfl)
      have hln := ofR_len ⟨[], g.rules⟩ a
      simp only at hln
      obtain ⟨O, hOe⟩ : ∃ O, O = ofR ⟨[], g.rules⟩ a := ⟨_, rfl⟩
      rw [← hOe] at hO2 hof hln
      obtain ⟨oa, oc, rfl, -⟩ := hO2.out.shape
      clear hO hOe d1
      go_wp2_with fail
      go_ret
      exact ⟨_, rfl, hbw.out, by rw [hof.out]; exact hO2.out.seq (by omega) fun b _ h => h.elim False.elim fun h => Nat.le_trans HB.out.size h⟩

/-! ### From: places of literals -/
def placesV (B : Nat) : Value := .func (.func 36) #[] #[.pointer (some ⟨B, 0, none⟩)]
set_option maxHeartbeats 3200000 in
set_option maxRecDepth 100000 in
theorem placesP_spec {S T : Nat → Prop} {w : World} {u : Value} {g : Prog} {l : List (List Cell)} {B : Nat} {va vr : Value} (hl : Seq (seqE cellE) T w u l) (hg : ProgV S w (.agg #[va, vr]) g) (h0 : w.cell? ⟨B, 0, none⟩ = some va) (h1 : w.cell? ⟨B, 1, none⟩ = some vr)
    (hs : Srt cmpT g.atoms) (hn : g.atoms.length ≤ 1000000) (hlen : l.length ≤ 1000000) :
    Calls Tryz.prog 36 #[u, .pointer (some ⟨B, 0, none⟩)] w (Ret (fun o w' => Seq intE (fun b => w.heap.size ≤ b) w' o (placesT g.atoms l)) w) := by
  have HL := Lib.hid hl
  have HG := Lib.hid hg
  have HS := Lib.hid hs
  have lB : B < w.heap.size := World.block_lt_of_cell? w _ h0
  have k0 := Lib.hid (fun (X : World) (h : Below w.heap.size w X) => (h.cell (p := ⟨B, 0, none⟩) lB).trans h0)
  have k1 := Lib.hid (fun (X : World) (h : Below w.heap.size w X) => (h.cell (p := ⟨B, 1, none⟩) lB).trans h1)
  obtain ⟨la, lc, rfl⟩ := hl.shape
  clear hl hg hs h0 h1
  go_enter Tryz.func36, Tryz.ntmps36
  go_wp2_with fail
  go_loopw [4, 9] (fun o i wr => ∃ k : Nat, k ≤ l.length ∧ i = .int .i64 k ∧ Hid (Own intE (fun _ => False) w.heap.size 3 wr o ((l.take k).map (posT g.atoms))) ∧ Hid (Below w.heap.size w wr)) (fun _ i _ => l.length - (intOf i).toNat)
  case atStart => exact ⟨0, Nat.zero_le _, rfl, Lib.hid (Own.nil _ _ _ _ _), Lib.hid (Below.refl _ _)⟩
  case round =>
    obtain ⟨k, hk, rfl, hO, hbr⟩ := hrel
    have hzr := hbr.out.size
    by_cases hlt : k < l.length
    · obtain ⟨_, _, ee, -, -, -, -, x5⟩ := (HL.out.at hbr.out)
      simp only [Value.slice.injEq, true_and] at ee
      obtain ⟨rfl, rfl⟩ := ee
      obtain ⟨b, off, p1, n1, rfl, -, hb, hc, hX⟩ := x5.seq hlt
      have HX := Lib.hid hX
      have hst := Lib.hid (map_snoc (posT g.atoms) hlt)
      have hQl : ((l.take k).map (posT g.atoms)).length ≤ 1000000 := by rw [List.length_map, List.length_take]; omega
      obtain ⟨Q, hQ⟩ : ∃ Q, Q = (l.take k).map (posT g.atoms) := ⟨_, rfl⟩
      rw [← hQ] at hO hst hQl
      obtain ⟨x, hx⟩ : ∃ x, x = l[k] := ⟨_, rfl⟩
      rw [← hx] at hc HX hst
      have hpi := posT_int g.atoms (by omega) x
      have hfs := Lib.hid (FindP_spec (HG.out.at hbr.out) HX.out HS.out hn)
      obtain ⟨p, hp⟩ : ∃ p, p = posT g.atoms x := ⟨_, rfl⟩
      rw [← hp] at hst hpi hfs
      have c0 := k0.out _ hbr.out
      have c1 := k1.out _ hbr.out
      have lB' : B < wr.heap.size := Nat.lt_of_lt_of_le lB hzr
      have hkl : (k : Int) < (l.length : Int) := by omega
      have hk0 : (0 : Int) ≤ (k : Int) := by omega
      clear hX x5 hQ hx hp
      go_wp2_with fail
      refine hfs.out.mono ?_
      rintro e w1 ⟨rfl, hb1⟩
      have B1 := Lib.hid (below_step hb1 hbr.out)
      have hz1 := B1.out.size
      have hO1 := Lib.hid (hO.out.move hb1)
      clear hb1 c0 c1
      go_wp2_with (at_builtin; refine wpList_app_int (wm := w1) rfl _ _ 36 rfl Tryz.underlying36 infoInt rfl hO1.out rfl (y := p) Seq.way hpi ((Row.new _ [_] _ rfl).cell (j := 0) (by simp)) (by omega) hz1 ?_)
      intro ao5 cap5 w5 hown5 hk5
      have H5 := Lib.hid hown5
      have B5 := Lib.hid (B1.out.trans (Below.trans (Below.mono (Seq.way : Below w1.heap.size w1 _) hz1) hk5.below))
      clear hown5 hk5
      go_wp2_with fail
      go_roundw
      case rel => exact ⟨k + 1, hlt, by go_num, Lib.hid (by rw [hst.out]; simpa using H5.out), B5⟩
      case measure => simp [intOf]; omega
    · obtain rfl : k = l.length := by omega
      have hkl : ¬ (l.length : Int) < (l.length : Int) := by omega
      have hO2 := Lib.hid (show Own intE _ _ _ wr _ (l.map (posT g.atoms)) by have := hO.out; rwa [List.take_length] at this)
      obtain ⟨Q, hQ⟩ : ∃ Q, Q = l.map (posT g.atoms) := ⟨_, rfl⟩
      have hQl : Q.length ≤ 1000000 := by rw [hQ, List.length_map]; omega
      have hpl := Lib.hid (show placesT g.atoms l = setL cmpZ Q by rw [hQ]; rfl)
      rw [← hQ] at hO2
      have hSq := Lib.hid (hO2.out.seq (T := fun b => w.heap.size ≤ b) (by omega) fun b _ h => h.elim False.elim id)
      obtain ⟨oa, oc, rfl, -⟩ := hO2.out.shape
      clear hO hQ
      go_wp2_with fail
      refine (setI_spec hSq.out hQl).mono ?_
      rintro e w1 ⟨r1, rfl, hb1, hr1⟩
      have HR1 := Lib.hid (hr1.mono (T := fun b => w.heap.size ≤ b) (fun b h _ => h.elim id fun h => Nat.le_trans hzr h) fun _ _ _ => rfl)
      have B1 := Lib.hid (below_step hb1 hbr.out)
      obtain ⟨ra, rc, rfl⟩ := hr1.shape
      clear hb1 hr1
      go_wp2_with fail
      go_ret
      exact ⟨_, rfl, B1.out, by rw [hpl.out]; exact HR1.out⟩

theorem kept_ne {α : Type} {E : Elt α} {S : Nat → Prop} {e : TypeId} {xs : List α} {base : Nat} {wm w w' : World} {v v' : Value} (hk : Kept base wm w w' v v') (ho : Own E S base e wm v xs) {b : Nat} (h1 : wm.heap.size ≤ b) (h2 : b < w.heap.size) : v'.ownBlock ≠ some b := fun h => by
  rcases hk.blk with h3 | h3
  · rw [h3] at h
    have := (ho.blk h).2; omega
  · rw [h3] at h
    simp at h; omega
/-! ### From -/
set_option maxHeartbeats 12800000 in
set_option maxRecDepth 100000 in
theorem FromP_spec {S : Nat → Prop} {w : World} {v : Value} {l : List Ins} (hl : Seq instE S w v l) (hn : (allT l).length ≤ 100000) (hll : l.length ≤ 100000) :
    Calls Tryz.prog 15 #[v] w (Ret (fun o w' => ProgV (Fr S w) w' o (fromT l)) w) := by
  have HL := Lib.hid hl.bnd
  have Hn := Lib.hid hn
  obtain ⟨la, lc, rfl⟩ := hl.shape
  clear hl hn
  obtain ⟨W, hW⟩ : ∃ W, W = w.alloc (.cells #[.slice none 0 0, .slice none 0 0] 26) := ⟨_, rfl⟩
  have HB := Lib.hid (show Below w.heap.size w W by rw [hW]; exact Seq.way)
  have hzW1 : W.heap.size ≤ w.heap.size + 1 := by rw [hW]; simp
  have hzW2 : w.heap.size + 1 ≤ W.heap.size := by rw [hW]; simp
  have HZ := Lib.hid (show Row 26 W w.heap.size [.slice none 0 0, .slice none 0 0] by rw [hW]; exact Row.new w [_, _] _ rfl)
  have HW := Lib.hid hW
  clear hW
  go_enter Tryz.func15, Tryz.ntmps15
  go_upto_region 2 with fail
  rw [← HW.out]
  go_wp2_with fail
  go_loopw [3, 13] (fun o i wr => ∃ k : Nat, k ≤ l.length ∧ i = .int .i64 k ∧ Hid (Own (seqE cellE) (fun b => S b ∧ b < w.heap.size) W.heap.size 33 wr o (allT (l.take k))) ∧ Hid (Below W.heap.size W wr)) (fun _ i _ => l.length - (intOf i).toNat)
  case atStart => exact ⟨0, Nat.zero_le _, rfl, Lib.hid (Own.nil _ _ _ _ _), Lib.hid (Below.refl _ _)⟩
  case round =>
    obtain ⟨k, hk, rfl, hO, hbr⟩ := hrel
    have hzr := hbr.out.size
    have hbw := Lib.hid (below_step hbr.out HB.out)
    by_cases hlt : k < l.length
    · have hpt := Lib.hid (allT_part hlt)
      have hsn := Lib.hid (allT_snoc hlt)
      obtain ⟨_, _, ee, -, -, -, -, x5⟩ := (HL.out.at hbw.out)
      simp only [Value.slice.injEq, true_and] at ee
      obtain ⟨rfl, rfl⟩ := ee
      obtain ⟨b, off, ha, hc, pa, pc, na, nc, rfl, ⟨-, hbW⟩, hb, c0, c1, c2, hX, hP, hN⟩ := x5.ins hlt
      have HX := Lib.hid hX
      have HPs := Lib.hid hP
      have HNs := Lib.hid hN
      obtain ⟨i, hi⟩ : ∃ i, i = l[k] := ⟨_, rfl⟩
      rw [← hi] at c0 c1 c2 HX HPs HNs hpt hsn
      obtain ⟨M, hM⟩ : ∃ M, M = allT (l.take k) := ⟨_, rfl⟩
      rw [← hM] at hO hpt hsn
      have hML : M.length + (1 + i.pos.length + i.neg.length) ≤ 100000 := Nat.le_trans hpt.out Hn.out
      have hXf := Lib.hid (fun (X : World) (h : Below w.heap.size wr X) => HX.out.mono (T := fun b => S b ∧ b < w.heap.size) (fun _ h _ => h) fun b hb _ => h.block b hb.2)
      have hPf := Lib.hid (fun (X : World) (h : Below w.heap.size wr X) => HPs.out.mono (T := fun b => S b ∧ b < w.heap.size) (fun _ h _ => h) fun b hb _ => h.block b hb.2)
      have hNf := Lib.hid (fun (X : World) (h : Below w.heap.size wr X) => HNs.out.mono (T := fun b => S b ∧ b < w.heap.size) (fun _ h _ => h) fun b hb _ => h.block b hb.2)
      obtain ⟨oa, oc, rfl, -⟩ := hO.out.shape
      have hkl : (k : Int) < (l.length : Int) := by omega
      have hk0 : (0 : Int) ≤ (k : Int) := by omega
      have hwW : w.heap.size ≤ W.heap.size := by omega
      obtain ⟨W1, hW1⟩ : ∃ W1, W1 = wr.alloc (.cells #[.slice ha i.head.length hc, .slice pa i.pos.length pc, .slice na i.neg.length nc] 41) := ⟨_, rfl⟩
      have B1 := Lib.hid (show Below wr.heap.size wr W1 by rw [hW1]; exact Seq.way)
      have HQ := Lib.hid (show Row 41 W1 wr.heap.size [.slice ha i.head.length hc, .slice pa i.pos.length pc, .slice na i.neg.length nc] by rw [hW1]; exact Row.new wr [_, _, _] _ rfl)
      have HW1 := Lib.hid hW1
      have hz1 : W.heap.size ≤ W1.heap.size := Nat.le_trans hzr B1.out.size
      have C1 := Lib.hid (B1.out.mono hzr)
      clear hX hP hN x5 hi hM hW1 HX HPs HNs
      go_upto_region 5 with fail
      rw [← HW1.out]
      have f0 := HQ.out.cell (j := 0) (by simp)
      have l0 := HQ.out.lt
      simp only [List.getElem_cons_zero] at f0
      have hX1 := Lib.hid (hXf.out _ (C1.out.mono hwW)).bnd
      go_wp2_with (at_builtin; (refine wpList_app_seq (E := cellE) (S := fun b => S b ∧ b < w.heap.size) (Sy := fun b => (S b ∧ b < w.heap.size) ∧ b < W1.heap.size) (base := W.heap.size) (wm := wr) (y := i.head) (vy := .slice ha i.head.length hc) rfl _ _ 23 rfl Tryz.underlying23 infoSeq rfl hO.out rfl (below_step Seq.way B1.out) (hX1.out.at Seq.way) (fun b h _ => ⟨h.1, .inl (by omega)⟩) ((Row.new _ [_] _ rfl).cell (j := 0) (by simp)) (by omega) hzr ?_))
      intro ao2 cap2 w2 hown2 hk2
      have H2 := Lib.hid hown2
      have C2 := Lib.hid (C1.out.trans (Below.trans (Below.mono (Seq.way : Below W1.heap.size W1 _) hz1) hk2.below))
      have hz2 : W.heap.size ≤ w2.heap.size := Nat.le_trans hzr C2.out.size
      have lQ : wr.heap.size < (W1.alloc (.cells #[.slice ha i.head.length hc] 33)).heap.size := by simp; omega
      have f1 : w2.cell? ⟨wr.heap.size, 1, none⟩ = some (.slice pa i.pos.length pc) := (hk2.cell 1 (Nat.le_refl _) lQ).trans ((HQ.out.alloc _).cell (j := 1) (by simp))
      have f2 := Lib.hid (show w2.cell? ⟨wr.heap.size, 2, none⟩ = some (.slice na i.neg.length nc) from (hk2.cell 2 (Nat.le_refl _) lQ).trans ((HQ.out.alloc _).cell (j := 2) (by simp)))
      have lw2 : wr.heap.size < w2.heap.size := by have := hk2.below.size; simp at this; omega
      have ne2 := Lib.hid (kept_ne hk2 hO.out (Nat.le_refl _) lQ)
      clear hown2 hk2 f0 lQ
      obtain ⟨M2, hM2⟩ : ∃ M2, M2 = (M ++ [i.head]) ++ i.pos := ⟨_, rfl⟩
      have hM2l : M2.length ≤ 100000 := by rw [hM2]; simp; omega
      have hM2n : M2.length + i.neg.length ≤ 100000 := by rw [hM2]; simp; omega
      have HM2 := Lib.hid hM2
      have hP2 := Lib.hid (hPf.out _ (C2.out.mono hwW))
      clear hM2
      go_wp2_with (at_builtin; go_loud (refine wpList_appL (E := seqE cellE) (S := fun b => S b ∧ b < w.heap.size) (base := W.heap.size) (wm := w2) (zs := M2) rfl _ _ 23 rfl Tryz.underlying23 infoSeq rfl rfl H2.out (Below.refl _ _) rfl hP2.out (fun b h _ => ⟨h, .inl (by omega)⟩) HM2.out (by omega) (by omega) hz2 ?_))
      intro ao3 cap3 w3 hown3 hk3
      have H3 := Lib.hid hown3
      have C3 := Lib.hid (C2.out.trans hk3.below)
      have hz3 : W.heap.size ≤ w3.heap.size := Nat.le_trans hzr C3.out.size
      have f3 : w3.cell? ⟨wr.heap.size, 2, none⟩ = some (.slice na i.neg.length nc) := (World.cell?_of_block (hk3.keep _ lw2 ne2.out)).trans f2.out
      have lw3 : wr.heap.size < w3.heap.size := Nat.lt_of_lt_of_le lw2 hk3.below.size
      clear hown3 hk3 f1 f2
      obtain ⟨M3, hM3⟩ : ∃ M3, M3 = M2 ++ i.neg := ⟨_, rfl⟩
      have hM3l : M3.length ≤ 100000 := by rw [hM3, List.length_append]; exact hM2n
      have HM3 := Lib.hid hM3
      have hN3 := Lib.hid (hNf.out _ (C3.out.mono hwW))
      clear hM3
      go_wp2_with (at_builtin; go_loud (refine wpList_appL (E := seqE cellE) (S := fun b => S b ∧ b < w.heap.size) (base := W.heap.size) (wm := w3) (zs := M3) rfl _ _ 23 rfl Tryz.underlying23 infoSeq rfl rfl H3.out (Below.refl _ _) rfl hN3.out (fun b h _ => ⟨h, .inl (by omega)⟩) HM3.out (by omega) (by omega) hz3 ?_))
      intro ao4 cap4 w4 hown4 hk4
      have H4 := Lib.hid hown4
      have C4 := Lib.hid (C3.out.trans hk4.below)
      clear hown4 hk4 f3
      go_wp2_with fail
      go_roundw
      case rel =>
        refine ⟨k + 1, hlt, by go_num, Lib.hid ?_, Lib.hid (hbr.out.trans C4.out)⟩
        rw [hsn.out, show M ++ ((i.head :: i.pos) ++ i.neg) = M3 by rw [HM3.out, HM2.out]; simp]
        exact H4.out
      case measure => simp [intOf]; omega
    · obtain rfl : k = l.length := by omega
      have hkl : ¬ (l.length : Int) < (l.length : Int) := by omega
      have hO2 := Lib.hid (show Own (seqE cellE) _ _ _ wr _ (allT l) by have := hO.out; rwa [List.take_length] at this)
      have hSq := Lib.hid (hO2.out.seq (T := fun b => (S b ∧ b < w.heap.size) ∨ W.heap.size ≤ b) (by have := Hn.out; omega) fun b _ h => h)
      have hfr := Lib.hid (show fromT l = ⟨setL cmpT (allT l), setL cmpU (l.map (ruleT (setL cmpT (allT l))))⟩ from rfl)
      have hAl := setL_lenle cmpT (allT l) Hn.out
      have hAs := Lib.hid (setL_srt cmpT_ok (allT l))
      have hsp := Lib.hid (setT_spec hSq.out (by have := Hn.out; omega))
      obtain ⟨A, hAe⟩ : ∃ A, A = setL cmpT (allT l) := ⟨_, rfl⟩
      rw [← hAe] at hfr hAl hAs hsp
      obtain ⟨oa, oc, rfl, -⟩ := hO2.out.shape
      have HZr := Lib.hid (HZ.out.at (hbr.out.block _ HZ.out.lt))
      clear hO hlt hk hAe
      go_wp2_with fail
      refine hsp.out.mono ?_
      rintro e w2 ⟨r2, rfl, hb2, hs2⟩
      have HA2 := Lib.hid (hs2.mono (T := fun b => (S b ∧ b < w.heap.size) ∨ W.heap.size ≤ b) (fun b h _ => by
        have h8 : ((S b ∧ b < w.heap.size) ∨ W.heap.size ≤ b) ∨ wr.heap.size ≤ b := h
        exact h8.elim id fun h => .inr (by omega)) fun _ _ _ => rfl)
      have HA2b := Lib.hid HA2.out.bnd
      have BW2 := Lib.hid (below_step hb2 hbw.out)
      have BB2 := Lib.hid (hbr.out.trans (hb2.mono hzr))
      have HZ2 := Lib.hid (rowTo HZr.out hb2)
      obtain ⟨aa, ac, rfl⟩ := hs2.shape
      obtain ⟨W2, hW2⟩ : ∃ W2, W2 = w2.alloc (.cells #[.slice aa A.length ac, .slice none 0 0] 26) := ⟨_, rfl⟩
      have BW2' := Lib.hid (show Below w2.heap.size w2 W2 by rw [hW2]; exact Seq.way)
      have hzw2 : W.heap.size ≤ w2.heap.size := Nat.le_trans hzr hb2.size
      have hz21 : w2.heap.size + 1 ≤ W2.heap.size := by rw [hW2]; simp
      have HG := Lib.hid (show Row 26 W2 w2.heap.size [.slice aa A.length ac, .slice none 0 0] by rw [hW2]; exact Row.new w2 [_, _] _ rfl)
      have HZ3 := Lib.hid (rowTo HZ2.out BW2'.out)
      have HA3 := Lib.hid (HA2.out.at BW2'.out)
      have HA3b := Lib.hid (HA2b.out.at BW2'.out)
      have HW2 := Lib.hid hW2
      clear hb2 hs2 hW2
      go_upto_region 12 with fail
      rw [← HW2.out]
      go_wp2_with fail
      go_loopw [8, 37] (fun o i wr => ∃ k : Nat, k ≤ l.length ∧ i = .int .i64 k ∧ Hid (Own ruleE (fun b => W2.heap.size ≤ b) W2.heap.size 46 wr o ((l.take k).map (ruleT A))) ∧ Hid (Below W2.heap.size W2 wr)) (fun _ i _ => l.length - (intOf i).toNat)
      case atStart => exact ⟨0, Nat.zero_le _, rfl, Lib.hid (Own.nil _ _ _ _ _), Lib.hid (Below.refl _ _)⟩
      case round =>
        clear hkl
        obtain ⟨k, hk, rfl, hO, hbr3⟩ := hrel
        have hzr3 := hbr3.out.size
        have BX := Lib.hid (below_step (below_step hbr3.out BW2'.out) BW2.out)
        by_cases hlt : k < l.length
        · obtain ⟨_, _, ee, -, -, -, -, x5⟩ := (HL.out.at BX.out)
          simp only [Value.slice.injEq, true_and] at ee
          obtain ⟨rfl, rfl⟩ := ee
          obtain ⟨b, off, ha, hc, pa, pc, na, nc, rfl, ⟨-, hbW⟩, hb, c0, c1, c2, hX, hP, hN⟩ := x5.ins hlt
          have HX := Lib.hid hX
          have HPs := Lib.hid hP
          have HNs := Lib.hid hN
          have hpt := Lib.hid (allT_part hlt)
          have hst := Lib.hid (map_snoc (ruleT A) hlt)
          have hpl : l[k].pos.length ≤ 1000000 := by have := hpt.out; have := Hn.out; omega
          have hnl : l[k].neg.length ≤ 1000000 := by have := hpt.out; have := Hn.out; omega
          have hQl : ((l.take k).map (ruleT A)).length ≤ 100000 := by rw [List.length_map, List.length_take]; omega
          obtain ⟨i, hi⟩ : ∃ i, i = l[k] := ⟨_, rfl⟩
          rw [← hi] at c0 c1 c2 HX HPs HNs hst hpl hnl
          obtain ⟨Q, hQ⟩ : ∃ Q, Q = (l.take k).map (ruleT A) := ⟨_, rfl⟩
          rw [← hQ] at hO hst hQl
          obtain ⟨oa3, oc3, rfl, -⟩ := hO.out.shape
          obtain ⟨W3, hW3⟩ : ∃ W3, W3 = wr.alloc (.cells #[.slice ha i.head.length hc, .slice pa i.pos.length pc, .slice na i.neg.length nc] 41) := ⟨_, rfl⟩
          have B3 := Lib.hid (show Below wr.heap.size wr W3 by rw [hW3]; exact Seq.way)
          have HQ := Lib.hid (show Row 41 W3 wr.heap.size [.slice ha i.head.length hc, .slice pa i.pos.length pc, .slice na i.neg.length nc] by rw [hW3]; exact Row.new wr [_, _, _] _ rfl)
          have HG3 := Lib.hid (rowTo (rowTo HG.out hbr3.out) B3.out)
          have HW3 := Lib.hid hW3
          have hz33 : wr.heap.size + 1 ≤ W3.heap.size := by rw [hW3]; simp
          have hkl : (k : Int) < (l.length : Int) := by omega
          have hk0 : (0 : Int) ≤ (k : Int) := by omega
          have iok := posT_int A (by omega) i.head
          have hPg := Lib.hid (show ProgV (fun b => (S b ∧ b < w.heap.size) ∨ W.heap.size ≤ b) W3 (.agg #[.slice aa A.length ac, .slice none 0 0]) ⟨A, []⟩ from ⟨_, _, rfl, (HA3.out.at hbr3.out).at B3.out, Seq.nil _ _ _⟩)
          clear hX hP hN x5 hi hQ hpt hW3
          go_upto_region 15 with fail
          rw [← HW3.out]
          have f0 := HQ.out.cell (j := 0) (by simp)
          have f1 := HQ.out.cell (j := 1) (by simp)
          have f2 := HQ.out.cell (j := 2) (by simp)
          have g0 := HG3.out.cell (j := 0) (by simp)
          have g1 := HG3.out.cell (j := 1) (by simp)
          have lQ := HQ.out.lt
          have lG := HG3.out.lt
          simp only [List.getElem_cons_zero, List.getElem_cons_succ] at f0 f1 f2 g0 g1
          have Hkeep := fun {Wk : World} (hW : Below W3.heap.size W3 Wk) => Lib.hid (show Wk.cell? ⟨w2.heap.size, 0, none⟩ = some (.slice aa A.length ac) ∧ Wk.cell? ⟨w2.heap.size, 1, none⟩ = some (.slice none 0 0) ∧ Wk.cell? ⟨wr.heap.size, 0, none⟩ = some (.slice ha i.head.length hc) ∧ Wk.cell? ⟨wr.heap.size, 1, none⟩ = some (.slice pa i.pos.length pc) ∧ Wk.cell? ⟨wr.heap.size, 2, none⟩ = some (.slice na i.neg.length nc) from ⟨(hW.cell (p := ⟨w2.heap.size, 0, none⟩) lG).trans g0, (hW.cell (p := ⟨w2.heap.size, 1, none⟩) lG).trans g1, (hW.cell (p := ⟨wr.heap.size, 0, none⟩) lQ).trans f0, (hW.cell (p := ⟨wr.heap.size, 1, none⟩) lQ).trans f1, (hW.cell (p := ⟨wr.heap.size, 2, none⟩) lQ).trans f2⟩)
          (try simp only [List.append_eq, List.cons_append, List.nil_append])
          refine wp_region_noPanic ?_
          refine wp_region_held_drew (S := fun w' => w'.cell? ⟨w2.heap.size, 0, none⟩ = some (.slice aa A.length ac) ∧ w'.cell? ⟨w2.heap.size, 1, none⟩ = some (.slice none 0 0) ∧ w'.cell? ⟨wr.heap.size, 0, none⟩ = some (.slice ha i.head.length hc) ∧ w'.cell? ⟨wr.heap.size, 1, none⟩ = some (.slice pa i.pos.length pc) ∧ w'.cell? ⟨wr.heap.size, 2, none⟩ = some (.slice na i.neg.length nc)) (by kernel_rfl) ?_ (fun hHeld => ?_)
          · exact (Hkeep (Below.drew (Below.refl _ _))).out
          refine wpAnyH_take1 (i := 0) (oi := _) (v := ?_) (by kernel_rfl) rfl (by kernel_rfl) (fun _ _ _ h => h) (Or.inl ⟨by rfl, ?_⟩) (by assumption) ?_
          rotate_left 1
          · intro w hSw; (try dsimp only at hSw); go_simp; (with_reducible rfl)
          (try simp only [Act.put, List.getElem_toArray, List.getElem_cons_zero, List.setIfInBounds_toArray, List.set_cons_zero, List.set_cons_succ])
          refine wpAnyH_take1 (i := 1) (oi := _) (v := ?_) (by kernel_rfl) rfl (by kernel_rfl) (fun _ _ _ h => h) (Or.inl ⟨by rfl, ?_⟩) (by assumption) ?_
          rotate_left 1
          · intro w hSw; (try dsimp only at hSw); go_simp; (with_reducible rfl)
          (try simp only [Act.put, List.getElem_toArray, List.getElem_cons_zero, List.getElem_cons_succ, List.setIfInBounds_toArray, List.set_cons_zero, List.set_cons_succ])
          refine wpAnyH_take1 (i := 2) (oi := _) (v := ?_) (by kernel_rfl) rfl (by kernel_rfl) (fun _ _ _ h => h) (Or.inl ⟨by rfl, ?_⟩) (by assumption) ?_
          rotate_left 1
          · intro w hSw; (try dsimp only at hSw); go_simp; (with_reducible rfl)
          (try simp only [Act.put, List.getElem_toArray, List.getElem_cons_zero, List.getElem_cons_succ, List.setIfInBounds_toArray, List.set_cons_zero, List.set_cons_succ])
          refine wpAnyH_take1 (i := 3) (oi := _) (v := ?_) (by kernel_rfl) rfl (by kernel_rfl) (fun _ _ _ h => h) (Or.inl ⟨by rfl, ?_⟩) (by assumption) ?_
          rotate_left 1
          · intro w hSw; (try dsimp only at hSw); go_simp; (with_reducible rfl)
          (try simp only [Act.put, List.getElem_toArray, List.getElem_cons_zero, List.getElem_cons_succ, List.setIfInBounds_toArray, List.set_cons_zero, List.set_cons_succ])
          refine wpAnyH_take1 (i := 5) (oi := _) (v := ?_) (by kernel_rfl) rfl (by kernel_rfl) (fun _ _ _ h => h) (Or.inl ⟨by rfl, ?_⟩) (by assumption) ?_
          rotate_left 1
          · intro w hSw; (try dsimp only at hSw); go_simp; (with_reducible rfl)
          (try simp only [Act.put, List.getElem_toArray, List.getElem_cons_zero, List.getElem_cons_succ, List.setIfInBounds_toArray, List.set_cons_zero, List.set_cons_succ])
          refine wpAnyH_take1 (i := 6) (oi := _) (v := ?_) (by kernel_rfl) rfl (by kernel_rfl) (fun _ _ _ h => h) (Or.inl ⟨by rfl, ?_⟩) (by assumption) ?_
          rotate_left 1
          · intro w hSw; (try dsimp only at hSw); go_simp; (with_reducible rfl)
          (try simp only [Act.put, List.getElem_toArray, List.getElem_cons_zero, List.getElem_cons_succ, List.setIfInBounds_toArray, List.set_cons_zero, List.set_cons_succ])
          refine wpAnyH_take1 (i := 7) (oi := _) (v := ?_) (by kernel_rfl) rfl (by kernel_rfl) (fun _ _ _ h => h) (Or.inl ⟨by rfl, ?_⟩) (by assumption) ?_
          rotate_left 1
          · intro w hSw; (try dsimp only at hSw); go_simp; (with_reducible rfl)
          (try simp only [Act.put, List.getElem_toArray, List.getElem_cons_zero, List.getElem_cons_succ, List.setIfInBounds_toArray, List.set_cons_zero, List.set_cons_succ])
          refine wpAnyH_take1 (i := 9) (oi := _) (v := ?_) (by kernel_rfl) rfl (by kernel_rfl) (fun _ _ _ h => h) (Or.inl ⟨by rfl, ?_⟩) (by assumption) ?_
          rotate_left 1
          · intro w hSw; (try dsimp only at hSw); go_simp; (with_reducible rfl)
          (try simp only [Act.put, List.getElem_toArray, List.getElem_cons_zero, List.getElem_cons_succ, List.setIfInBounds_toArray, List.set_cons_zero, List.set_cons_succ])
          refine wpAnyH_take1 (i := 10) (oi := _) (v := ?_) (by kernel_rfl) rfl (by kernel_rfl) (fun _ _ _ h => h) (Or.inl ⟨by rfl, ?_⟩) (by assumption) ?_
          rotate_left 1
          · intro w hSw; (try dsimp only at hSw); go_simp; (with_reducible rfl)
          (try simp only [Act.put, List.getElem_toArray, List.getElem_cons_zero, List.getElem_cons_succ, List.setIfInBounds_toArray, List.set_cons_zero, List.set_cons_succ])
          refine wpAnyH_take1 (i := 11) (oi := _) (v := ?_) (by kernel_rfl) rfl (by kernel_rfl) (fun _ _ _ h => h) (Or.inl ⟨by rfl, ?_⟩) (by assumption) ?_
          rotate_left 1
          · intro w hSw; (try dsimp only at hSw); go_simp; (with_reducible rfl)
          (try simp only [Act.put, List.getElem_toArray, List.getElem_cons_zero, List.getElem_cons_succ, List.setIfInBounds_toArray, List.set_cons_zero, List.set_cons_succ])
          refine wpAnyH_one (i := 4) (by kernel_rfl) rfl (by rfl) fun K hK => ?_
          go_simp
          refine ((FindP_spec (hPg.out.at Seq.way) ((HX.out.at B3.out).at Seq.way) hAs.out (by show A.length ≤ 1000000; omega))).mono ?_
          rintro e y1 ⟨rfl, hy1⟩
          have HY1 := below_step hy1 (Seq.way : Below W3.heap.size W3 _)
          have zy1 := HY1.size
          (try dsimp only)
          clear hHeld
          refine hK.out _ _ (Hkeep HY1).out fun hHeld => ?_
          clear hK K
          (try simp only [Act.put, List.getElem_toArray, List.getElem_cons_zero, List.getElem_cons_succ, List.setIfInBounds_toArray, List.set_cons_zero, List.set_cons_succ])
          have HG4 := Lib.hid (rowTo HG3.out HY1)
          refine wpAnyH_one (i := 8) (by kernel_rfl) rfl (by rfl) fun K hK => ?_
          go_simp
          refine ((placesP_spec (B := w2.heap.size) ((HPs.out.at B3.out).at Seq.way) (hPg.out.at Seq.way) (HG4.out.cell (j := 0) (by simp)) (HG4.out.cell (j := 1) (by simp)) hAs.out (by show A.length ≤ 1000000; omega) hpl)).mono ?_
          rintro e y2 ⟨_, rfl, hy2, hz2⟩
          have HY2 := below_step hy2 (Seq.way : Below W3.heap.size W3 _)
          have zy2 := HY2.size
          (try dsimp only)
          clear hHeld
          refine hK.out _ _ (Hkeep HY2).out fun hHeld => ?_
          clear hK K
          (try simp only [Act.put, List.getElem_toArray, List.getElem_cons_zero, List.getElem_cons_succ, List.setIfInBounds_toArray, List.set_cons_zero, List.set_cons_succ])
          have HZ2a := Lib.hid (hz2.mono (T := fun b => wr.heap.size ≤ b) (fun b h _ => by have h8 : y1.heap.size ≤ b := h; omega) fun _ _ _ => rfl)
          obtain ⟨xa2, xc2, rfl⟩ := hz2.shape
          have HG5 := Lib.hid (rowTo HG3.out HY2)
          clear hz2
          refine wpAnyH_one (i := 12) (by kernel_rfl) rfl (by rfl) fun K hK => ?_
          go_simp
          refine ((placesP_spec (B := w2.heap.size) ((HNs.out.at B3.out).at Seq.way) (hPg.out.at Seq.way) (HG5.out.cell (j := 0) (by simp)) (HG5.out.cell (j := 1) (by simp)) hAs.out (by show A.length ≤ 1000000; omega) hnl)).mono ?_
          rintro e y3 ⟨_, rfl, hy3, hz3⟩
          have HY3 := below_step hy3 (Seq.way : Below W3.heap.size W3 _)
          have zy3 := HY3.size
          (try dsimp only)
          clear hHeld
          refine hK.out _ _ (Hkeep HY3).out fun hHeld => ?_
          clear hK K
          (try simp only [Act.put, List.getElem_toArray, List.getElem_cons_zero, List.getElem_cons_succ, List.setIfInBounds_toArray, List.set_cons_zero, List.set_cons_succ])
          have HZ3a := Lib.hid (hz3.mono (T := fun b => wr.heap.size ≤ b) (fun b h _ => by have h8 : y2.heap.size ≤ b := h; omega) fun _ _ _ => rfl)
          obtain ⟨xa3, xc3, rfl⟩ := hz3.shape
          have HZ2b := Lib.hid (HZ2a.out.at hy3)
          clear hz3
          refine wpAnyH_take1 (i := 13) (oi := _) (v := ?_) (by kernel_rfl) rfl (by kernel_rfl) (fun _ _ _ h => h) (Or.inl ⟨by rfl, ?_⟩) (by assumption) ?_
          rotate_left 1
          · intro w hSw; (try dsimp only at hSw); go_simp; (with_reducible rfl)
          (try simp only [Act.put, List.getElem_toArray, List.getElem_cons_zero, List.getElem_cons_succ, List.setIfInBounds_toArray, List.set_cons_zero, List.set_cons_succ])
          refine wpAnyH_one (i := 14) (by kernel_rfl) rfl (by rfl) fun K hK => ?_
          go_simp
          (try dsimp only)
          clear hHeld
          refine hK.out _ _ (Hkeep Seq.way).out fun hHeld => ?_
          clear hK K
          (try simp only [Act.put, List.getElem_toArray, List.getElem_cons_zero, List.getElem_cons_succ, List.setIfInBounds_toArray, List.set_cons_zero, List.set_cons_succ])
          refine wpAnyH_one (i := 15) (by kernel_rfl) rfl (by rfl) fun K hK => ?_
          refine (wp_app_ruleK (S := fun b => W2.heap.size ≤ b) (Sy := fun b => wr.heap.size ≤ b) (base := W2.heap.size) (wm := wr) (y := ruleT A i) _ _ 24 rfl Tryz.underlying24 infoRule rfl hO.out rfl (below_step Seq.way B3.out) iok (HZ2b.out.at Seq.way) (HZ3a.out.at Seq.way) (fun b h _ => ⟨Nat.le_trans hzr3 h, .inr h⟩) ((Row.new _ [_, _, _] _ rfl).cell (j := 0) (by simp)) ((Row.new _ [_, _, _] _ rfl).cell (j := 1) (by simp)) ((Row.new _ [_, _, _] _ rfl).cell (j := 2) (by simp)) (by omega) hzr3 ?_)
          intro ao5 cap5 w5 hown5 hk5
          have H5 := Lib.hid hown5
          obtain ⟨q1, q2, q3, q4, q5⟩ := hHeld
          have S5 := Lib.hid (And.intro (keepA hk5 q1 (.inl (show w2.heap.size < W2.heap.size by omega))) (And.intro (keepA hk5 q2 (.inl (show w2.heap.size < W2.heap.size by omega))) (And.intro (keepA hk5 q3 (.inr (Nat.le_refl _))) (And.intro (keepA hk5 q4 (.inr (Nat.le_refl _))) (keepA hk5 q5 (.inr (Nat.le_refl _)))))))
          have hHeld := True.intro
          have B5 := Lib.hid (Below.trans (Below.mono (Seq.way : Below W3.heap.size W3 _) (by omega)) hk5.below)
          clear hown5 hk5 q1 q2 q3 q4 q5
          clear hHeld
          refine hK.out _ _ S5.out fun hHeld => ?_
          clear hK K
          (try simp only [Act.put, List.getElem_toArray, List.getElem_cons_zero, List.getElem_cons_succ, List.setIfInBounds_toArray, List.set_cons_zero, List.set_cons_succ])
          refine wpAnyH_take1 (i := 16) (oi := _) (v := ?_) (by kernel_rfl) rfl (by kernel_rfl) (fun _ _ _ h => h) (Or.inl ⟨by rfl, ?_⟩) (by assumption) ?_
          rotate_left 1
          · intro w hSw; (try dsimp only at hSw); go_simp; (with_reducible rfl)
          (try simp only [Act.put, List.getElem_toArray, List.getElem_cons_zero, List.getElem_cons_succ, List.setIfInBounds_toArray, List.set_cons_zero, List.set_cons_succ])
          refine wpAnyH_done (by kernel_rfl) ?_ _
          refine NoPanic.normal ?_
          go_wp2_with fail
          go_roundw
          case rel => exact ⟨k + 1, hlt, by go_num, Lib.hid (by rw [hst.out]; simpa using H5.out), Lib.hid (hbr3.out.trans (Below.trans (B3.out.mono hzr3) B5.out))⟩
          case measure => simp [intOf]; omega
        · obtain rfl : k = l.length := by omega
          have hkl : ¬ (l.length : Int) < (l.length : Int) := by omega
          have hO4 := Lib.hid (show Own ruleE _ _ _ wr _ (l.map (ruleT A)) by have := hO.out; rwa [List.take_length] at this)
          obtain ⟨Q, hQ⟩ : ∃ Q, Q = l.map (ruleT A) := ⟨_, rfl⟩
          have hQl : Q.length ≤ 100000 := by rw [hQ, List.length_map]; omega
          rw [← hQ] at hO4 hfr
          have hSq4 := Lib.hid (hO4.out.seq (T := fun b => W2.heap.size ≤ b) (by omega) fun b _ h => h.elim id id)
          have hsp4 := Lib.hid (setU_spec hSq4.out (by omega))
          obtain ⟨R, hRe⟩ : ∃ R, R = setL cmpU Q := ⟨_, rfl⟩
          rw [← hRe] at hfr hsp4
          obtain ⟨oa4, oc4, rfl, -⟩ := hO4.out.shape
          have HGr := Lib.hid (rowTo HG.out hbr3.out)
          have HZr3 := Lib.hid (rowTo HZ3.out hbr3.out)
          have HA4 := Lib.hid (HA3b.out.at hbr3.out)
          clear hO hlt hk hQ hRe
          go_wp2_with fail
          refine hsp4.out.mono ?_
          rintro e w5 ⟨r5, rfl, hb5, hs5⟩
          have HR5 := Lib.hid (hs5.mono (T := fun b => W2.heap.size ≤ b) (fun b h _ => by
            have h8 : W2.heap.size ≤ b ∨ wr.heap.size ≤ b := h
            omega) fun _ _ _ => rfl)
          have HG5 := Lib.hid (rowTo HGr.out hb5)
          have HZ5 := Lib.hid (rowTo HZr3.out hb5)
          have HA5 := Lib.hid (HA4.out.at hb5)
          have BX5 := Lib.hid (below_step hb5 BX.out)
          obtain ⟨xr, xc, rfl⟩ := hs5.shape
          have g0 := (HG5.out.set 1 (.slice xr R.length xc)).cell (j := 0) (by simp)
          have g1 := (HG5.out.set 1 (.slice xr R.length xc)).cell (j := 1) (by simp)
          have gz := HG5.out.frozen 1
          have go1 := HG5.out.cell (j := 1) (by simp)
          have hneq : w2.heap.size ≠ w.heap.size := by omega
          have HZ6 := Lib.hid (HZ5.out.setOther (a := ⟨w2.heap.size, 1, none⟩) (.slice xr R.length xc) hneq)
          have fz0 := HZ6.out.frozen 0
          have fz1 := HZ6.out.frozen 1
          have z0 := HZ6.out.cell (j := 0) (by simp)
          have z1 := HZ6.out.cell (j := 1) (by simp)
          simp only [List.getElem_cons_zero, List.getElem_cons_succ, List.set_cons_zero, List.set_cons_succ] at g0 g1 go1 z0 z1
          obtain ⟨w6, hw6⟩ : ∃ w6, w6 = w5.setCell ⟨w2.heap.size, 1, none⟩ (.slice xr R.length xc) := ⟨_, rfl⟩
          have HW6 := Lib.hid hw6
          rw [← hw6] at g0 g1 fz0 fz1 z0 z1 HZ6
          clear hb5 hs5 hw6
          go_upto_region 18 with fail
          rw [← HW6.out]
          go_wp2_with fail
          have s0 : ((w6.setCell ⟨w.heap.size, 0, none⟩ (.slice aa A.length ac)).setCell ⟨w.heap.size, 1, none⟩ (.slice xr R.length xc)).cell? ⟨w.heap.size, 0, none⟩ = some (.slice aa A.length ac) := ((HZ6.out.set 0 _).set 1 _).cell (j := 0) (by simp)
          have s1 : ((w6.setCell ⟨w.heap.size, 0, none⟩ (.slice aa A.length ac)).setCell ⟨w.heap.size, 1, none⟩ (.slice xr R.length xc)).cell? ⟨w.heap.size, 1, none⟩ = some (.slice xr R.length xc) := ((HZ6.out.set 0 _).set 1 _).cell (j := 1) (by simp)
          refine bodyPost_ret (v := .agg #[.slice aa A.length ac, .slice xr R.length xc]) (by simp [results, Tryz.results15, go_sem, s0, s1]) rfl ?_
          have hg6 : w5.grownBy w6 (some w2.heap.size) := by rw [HW6.out]; exact gr_set _ _ _ _
          have hg2 := gr_trans (gr_set w6 w.heap.size 0 (.slice aa A.length ac)) (gr_set _ w.heap.size 1 (.slice xr R.length xc))
          have hs6 := hg6.size
          have hsx := BX5.out.size
          refine ⟨_, rfl, BX5.out.trans ((gr_below hg6 (by omega) (by omega)).trans (gr_below hg2 (by omega) (by omega))), ?_⟩
          rw [hfr.out]
          refine ⟨_, _, rfl, ?_, ?_⟩
          · refine (gr_seq (gr_seq HA5.out hg6 ?_) hg2 ?_).mono (fun b h _ => ?_) fun _ _ _ => rfl
            · intro b h e; simp at e; have h8 : b < w2.heap.size := h.2; omega
            · intro b h e; simp at e; have h8 : (S b ∧ b < w.heap.size) ∨ W.heap.size ≤ b := h.1; omega
            · have h8 : (S b ∧ b < w.heap.size) ∨ W.heap.size ≤ b := h.1
              exact h8.imp (fun h => h.1) fun h => by omega
          · refine (gr_seq (gr_seq HR5.out hg6 ?_) hg2 ?_).mono (fun b h _ => ?_) fun _ _ _ => rfl
            · intro b h e; simp at e; have h8 : W2.heap.size ≤ b := h; omega
            · intro b h e; simp at e; have h8 : W2.heap.size ≤ b := h; omega
            · have h8 : W2.heap.size ≤ b := h
              exact .inr (by omega)
end Go.Proofs.YtaedgpcmkagpeaaGreat
