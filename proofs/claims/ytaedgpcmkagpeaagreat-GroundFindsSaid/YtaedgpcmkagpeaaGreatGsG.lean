/-
  Layer 16, the document: places among numbers (Place, anew), the same program (Same), a rule's instance (Inst).
-/
import Derived.Test.YtaedgpcmkagpeaaGreatGsF
import Derived.Test.YtaedgpcmkagpeaaGreatLast
namespace Go.Proofs.YtaedgpcmkagpeaaGreat
open Go Go.RowKit

def plcZ (l : List Int) (x : Int) : Int := if x ∈ l then (l.idxOf x : Int) else -1
theorem plcZ_hit {A : List Int} {t : Int} {k : Nat} (hk : k < A.length) (h : A[k] = t) (hno : ∀ j (hj : j < A.length), j < k → A[j] ≠ t) : plcZ A t = (k : Int) := by
  have he : A.idxOf t = k := by
    unfold List.idxOf
    exact (List.findIdx_eq hk).2 ⟨by simp [h], fun j hj => by simpa using hno j (by omega) hj⟩
  unfold plcZ
  rw [if_pos (h ▸ List.getElem_mem hk), he]
theorem plcZ_miss {A : List Int} {t : Int} (h : ∀ j (hj : j < A.length), A[j] ≠ t) : plcZ A t = -1 := by
  unfold plcZ
  rw [if_neg fun hm => ?_]
  obtain ⟨k, hk, e⟩ := List.mem_iff_getElem.1 hm
  exact h k hk e
theorem plcZ_rng (A : List Int) (t : Int) : -1 ≤ plcZ A t ∧ plcZ A t < A.length := by
  unfold plcZ
  split
  · rename_i h
    have := List.idxOf_lt_length_of_mem h
    omega
  · omega
def natsZ (l : List Nat) : List Int := l.map fun k : Nat => (k : Int)
theorem natsZ_len (l : List Nat) : (natsZ l).length = l.length := by simp [natsZ]
theorem natsZ_get {l : List Nat} {k : Nat} (h : k < (natsZ l).length) : (natsZ l)[k] = ((l[k]'(by rw [natsZ_len] at h; exact h) : Nat) : Int) := by simp [natsZ]
theorem mem_natsZ {l : List Nat} {x : Int} : x ∈ natsZ l ↔ inLN l x = true := by
  unfold natsZ inLN
  rw [List.mem_map, decide_eq_true_eq]
  constructor
  · rintro ⟨k, hk, rfl⟩; exact ⟨by simpa using hk, by omega⟩
  · rintro ⟨h1, h2⟩; exact ⟨_, h1, by omega⟩
theorem idxOf_natsZ : ∀ {l : List Nat} {k : Nat}, (natsZ l).idxOf (k : Int) = l.idxOf k
  | [], _ => rfl
  | a :: l, k => by
    show ((a : Int) :: natsZ l).idxOf (k : Int) = _
    rw [List.idxOf_cons, List.idxOf_cons, idxOf_natsZ]
    have : ((a : Int) == (k : Int)) = (a == k) := by rw [Bool.eq_iff_iff]; simp; omega
    rw [this]
theorem plcZ_nats (l : List Nat) (x : Int) : plcZ (natsZ l) x = plcN l x := by
  unfold plcZ plcN
  by_cases h : x ∈ natsZ l
  · have h2 := mem_natsZ.1 h
    unfold inLN at h2
    rw [decide_eq_true_eq] at h2
    rw [if_pos h, if_pos h2]
    obtain ⟨k, rfl⟩ : ∃ k : Nat, x = (k : Int) := ⟨x.toNat, by omega⟩
    rw [idxOf_natsZ]; simp
  · have h2 : ¬ (x.toNat ∈ l ∧ 0 ≤ x) := fun h3 => h (mem_natsZ.2 (by unfold inLN; rw [decide_eq_true_eq]; exact h3))
    rw [if_neg h, if_neg h2]

set_option maxHeartbeats 1600000 in
theorem PlaceR_spec {S : Nat → Prop} {w : World} {v : Value} {l : List Int} {n : Int} (hl : Seq intE S w v l) :
    Calls Tryz.prog 98 #[v, .int .i64 n] w (PureV (.int .i64 (plcZ l n)) w) := by
  obtain ⟨ao, cap, rfl, -, -, hll, -, h5⟩ := hl
  go_enter Tryz.func98, Tryz.ntmps98
  go_wp2_with fail
  go_loopw [5] (fun i wr => ∃ k : Nat, k ≤ l.length ∧ i = .int .i64 k ∧ Hid (∀ j (hj : j < l.length), j < k → l[j] ≠ n) ∧ w = wr) (fun i _ => l.length - (intOf i).toNat)
  case atStart => exact ⟨0, Nat.zero_le _, rfl, Lib.hid (fun j _ h => absurd h (Nat.not_lt_zero _)), rfl⟩
  case round =>
    obtain ⟨k, hk, rfl, hno, rfl⟩ := hrel
    by_cases hlt : k < l.length
    · obtain ⟨b, off, rfl, -, hb, hc, -⟩ := h5.int hlt
      have hkl : (k : Int) < (l.length : Int) := by omega
      have hk0 : (0 : Int) ≤ (k : Int) := by omega
      by_cases he : l[k] = n
      · have hres := Lib.hid (plcZ_hit hlt he hno.out)
        have hd : (l[k] == n) = true := by simp [he]
        clear he hno h5
        go_wp2_with fail
        go_ret
        exact ⟨ret_int hres.out.symm, rfl⟩
      · have hnx := Lib.hid (show ∀ j (hj : j < l.length), j < k + 1 → l[j] ≠ n from fun j hj hjk => by
          by_cases e : j = k
          · subst e; exact he
          · exact hno.out j hj (by omega))
        have hd : (l[k] == n) = false := by simp [he]
        clear he hno h5
        go_wp2_with fail
        go_roundw
        case rel => exact ⟨k + 1, hlt, by go_num, hnx, by first | rfl | trivial⟩
        case measure => simp [intOf]; omega
    · have hm := Lib.hid (plcZ_miss fun j hj => hno.out j hj (by omega))
      have hkl : ¬ (k : Int) < (l.length : Int) := by omega
      clear hno h5
      go_wp2_with fail
      go_ret
      exact ⟨ret_int hm.out.symm, rfl⟩

set_option maxHeartbeats 1600000 in
theorem anewR_spec {S T : Nat → Prop} {w : World} {v u : Value} {l m : List Int} (hl : Seq intE S w v l) (hm : Seq intE T w u m) (hlen : l.length ≤ 1000000) :
    Calls Tryz.prog 99 #[v, u] w (Ret (fun o w' => Seq intE (fun b => w.heap.size ≤ b) w' o (l.map (plcZ m))) w) := by
  have HM := Lib.hid hm
  obtain ⟨ma, mc, rfl, -, -, hml, -⟩ := hm
  obtain ⟨ao, cap, rfl, -, -, hll, -, h5⟩ := hl
  have H5 := Lib.hid h5
  clear h5
  go_enter Tryz.func99, Tryz.ntmps99
  go_wp2_with fail
  go_loopw [5, 6] (fun o i wr => ∃ k : Nat, k ≤ l.length ∧ i = .int .i64 k ∧ Hid (Own intE (fun _ => False) w.heap.size 3 wr o ((l.take k).map (plcZ m))) ∧ Hid (Below w.heap.size w wr)) (fun _ i _ => l.length - (intOf i).toNat)
  case atStart => exact ⟨0, Nat.zero_le _, rfl, Lib.hid (Own.lit0 rfl (Nat.le_refl _) rfl), Lib.hid Seq.way⟩
  case round =>
    obtain ⟨k, hk, rfl, hO, hbr⟩ := hrel
    have hzr := hbr.out.size
    by_cases hlt : k < l.length
    · obtain ⟨b, off, rfl, -, hb, hc, -⟩ := (H5.out.below hbr.out fun _ _ h => h).int hlt
      have hkl : (k : Int) < (l.length : Int) := by omega
      have hk0 : (0 : Int) ≤ (k : Int) := by omega
      have hst := Lib.hid (show (l.take (k + 1)).map (plcZ m) = (l.take k).map (plcZ m) ++ [plcZ m l[k]] by rw [List.take_succ_eq_append_getElem hlt, List.map_append]; rfl)
      obtain ⟨Q, hQ⟩ : ∃ Q, Q = (l.take k).map (plcZ m) := ⟨_, rfl⟩
      have hQl : Q.length ≤ 1000000 := by rw [hQ, List.length_map, List.length_take]; omega
      rw [← hQ] at hO hst
      have hpr := plcZ_rng m l[k]
      obtain ⟨p, hp⟩ : ∃ p, p = plcZ m l[k] := ⟨_, rfl⟩
      have HP := Lib.hid hp
      rw [← hp] at hst hpr
      clear hQ hp
      go_wp2_with fail
      refine (PlaceR_spec (HM.out.at hbr.out)).mono ?_
      rintro e _ ⟨rfl, rfl⟩
      rw [← HP.out]
      go_wp2_with (at_builtin; refine wpList_app_int (wm := wr) rfl _ _ 36 rfl Tryz.underlying36 infoInt rfl hO.out rfl (y := p) Seq.way ⟨by omega, by omega⟩ ((Row.new _ [_] _ rfl).cell (j := 0) (by simp)) (by omega) hzr ?_)
      intro ao5 cap5 w5 hown5 hk5
      have H := Lib.hid hown5
      have B5 := Lib.hid (hbr.out.trans (Below.trans (Below.mono (Seq.way : Below wr.heap.size wr _) hzr) hk5.below))
      clear hown5 hk5
      go_wp2_with fail
      go_roundw
      case rel => exact ⟨k + 1, hlt, by go_num, Lib.hid (by rw [hst.out]; simpa using H.out), B5⟩
      case measure => simp [intOf]; omega
    · obtain rfl : k = l.length := by omega
      have hkl : ¬ (l.length : Int) < (l.length : Int) := by omega
      have HO := Lib.hid (show Own intE _ _ _ wr _ (l.map (plcZ m)) by have := hO.out; rwa [List.take_length] at this)
      have hll2 := Lib.hid (show (l.map (plcZ m)).length ≤ 140737488355328 by rw [List.length_map]; omega)
      clear hO
      obtain ⟨Z, hZ⟩ : ∃ Z, Z = l.map (plcZ m) := ⟨_, rfl⟩
      rw [← hZ] at HO hll2
      have HZ := Lib.hid hZ
      clear hZ
      obtain ⟨oa, oc, rfl, -⟩ := HO.out.shape
      go_wp2_with fail
      go_ret
      exact ⟨_, rfl, hbr.out, by rw [← HZ.out]; exact HO.out.seq hll2.out fun b _ h => h.elim False.elim id⟩

/-! ### The same program -/
instance (a b : Prog) : Decidable (a = b) := decidable_of_iff (a.atoms = b.atoms ∧ a.rules = b.rules) (by cases a; cases b; simp)
theorem prog_ext {a b : Prog} (h1 : a.atoms = b.atoms) (h2 : a.rules = b.rules) : a = b := by cases a; cases b; simp only at h1 h2; rw [h1, h2]
def SmG (g : Prog) : Prop := ∀ r ∈ g.rules, SmU r
set_option maxHeartbeats 6400000 in
set_option maxRecDepth 100000 in
theorem SameG_spec {S T : Nat → Prop} {w : World} {v u : Value} {g h : Prog} (hg : ProgV S w v g) (hh : ProgV T w u h) (sg : SmG g) (sh : SmG h) :
    Calls Tryz.prog 14 #[v, u] w (RetV (.bool (decide (g = h))) w) := by
  obtain ⟨va, vr, rfl, hA, hR⟩ := hg
  obtain ⟨ua, ur, rfl, hA2, hR2⟩ := hh
  have HA := Lib.hid hA
  have HRl := Lib.hid hR
  have HA2 := Lib.hid hA2
  have HRl2 := Lib.hid hR2
  have SG := Lib.hid sg
  have SH := Lib.hid sh
  have hal : g.rules.length ≤ 140737488355328 := by obtain ⟨_, _, _, _, _, h, _⟩ := hR; exact h
  have hal2 : h.rules.length ≤ 140737488355328 := by obtain ⟨_, _, _, _, _, h, _⟩ := hR2; exact h
  obtain ⟨ra, rc, rfl⟩ := hR.shape
  obtain ⟨aa, ac, rfl⟩ := hA.shape
  obtain ⟨ra2, rc2, rfl⟩ := hR2.shape
  obtain ⟨aa2, ac2, rfl⟩ := hA2.shape
  clear hA hR hA2 hR2 sg sh
  obtain ⟨W, hW⟩ : ∃ W, W = (w.alloc (.cells #[.slice aa g.atoms.length ac, .slice ra g.rules.length rc] 26)).alloc (.cells #[.slice aa2 h.atoms.length ac2, .slice ra2 h.rules.length rc2] 26) := ⟨_, rfl⟩
  have HB := Lib.hid (show Below w.heap.size w W by rw [hW]; exact Seq.way)
  have HP := Lib.hid (show Row 26 W w.heap.size [.slice aa g.atoms.length ac, .slice ra g.rules.length rc] by rw [hW]; exact (Row.new w [_, _] _ rfl).alloc _)
  have HP2 := Lib.hid (show Row 26 W (w.heap.size + 1) [.slice aa2 h.atoms.length ac2, .slice ra2 h.rules.length rc2] by rw [hW]; exact Row.new _ [_, _] _ (by simp))
  have HW := Lib.hid hW
  clear hW
  go_enter Tryz.func14, Tryz.ntmps14
  by_cases hl : g.rules.length = h.rules.length
  · have hd1 : (((g.rules.length : Nat) : Int) != ((h.rules.length : Nat) : Int)) = false := by simp [hl]
    have HLe := Lib.hid hl
    clear hl
    go_upto_region 1 with fail
    rw [← HW.out]
    have c0 := HP.out.cell (j := 0) (by simp)
    have c1 := HP.out.cell (j := 1) (by simp)
    have e0 := HP2.out.cell (j := 0) (by simp)
    have e1 := HP2.out.cell (j := 1) (by simp)
    have l0 := HP.out.lt
    have l1 := HP2.out.lt
    simp only [List.getElem_cons_zero, List.getElem_cons_succ] at c0 c1 e0 e1
    go_wp2_with fail
    refine (SameAll_spec (HA.out.at HB.out) (HA2.out.at HB.out)).mono ?_
    rintro e w1 ⟨rfl, hq⟩
    have B1 := Lib.hid (hq.below W.heap.size)
    clear hq c0 c1 e0 e1 l0 l1
    by_cases he : g.atoms = h.atoms
    · rw [decide_eq_true he]
      have HAe := Lib.hid he
      clear he
      have HP' := Lib.hid (rowTo HP.out B1.out)
      have HP2' := Lib.hid (rowTo HP2.out B1.out)
      have hbw1 := Lib.hid (below_step B1.out HB.out)
      have c1 := HP'.out.cell (j := 1) (by simp)
      have e1 := HP2'.out.cell (j := 1) (by simp)
      simp only [List.getElem_cons_zero, List.getElem_cons_succ] at c1 e1
      go_wp2_with fail
      go_loopw [5] (fun i wr => ∃ k : Nat, k ≤ g.rules.length ∧ i = .int .i64 k ∧ Hid (∀ j, j < k → g.rules[j]? = h.rules[j]?) ∧ Hid (Below w1.heap.size w1 wr)) (fun i _ => g.rules.length - (intOf i).toNat)
      case atStart => exact ⟨0, Nat.zero_le _, rfl, Lib.hid (fun j h => absurd h (Nat.not_lt_zero _)), Lib.hid (Below.refl _ _)⟩
      case round =>
        obtain ⟨k, hk, rfl, hno, hbr⟩ := hrel
        have hbw := Lib.hid (below_step hbr.out hbw1.out)
        have HPr := Lib.hid (rowTo HP'.out hbr.out)
        have HP2r := Lib.hid (rowTo HP2'.out hbr.out)
        clear c1 e1
        have c1 := HPr.out.cell (j := 1) (by simp)
        have e1 := HP2r.out.cell (j := 1) (by simp)
        have l0 := HPr.out.lt
        have l1 := HP2r.out.lt
        simp only [List.getElem_cons_zero, List.getElem_cons_succ] at c1 e1
        by_cases hlt : k < g.rules.length
        · have hlt2 : k < h.rules.length := by have := HLe.out; omega
          obtain ⟨_, _, ee, -, -, -, -, x5⟩ := (HRl.out.at hbw.out)
          simp only [Value.slice.injEq, true_and] at ee
          obtain ⟨rfl, rfl⟩ := ee
          obtain ⟨_, _, ee, -, -, -, -, y5⟩ := (HRl2.out.at hbw.out)
          simp only [Value.slice.injEq, true_and] at ee
          obtain ⟨rfl, rfl⟩ := ee
          obtain ⟨b, off, pa, pc, na, nc, rfl, -, hb, hc0, hc1, hc2, hiok, hX, hY⟩ := x5.rule hlt
          obtain ⟨b2, off2, pa2, pc2, na2, nc2, rfl, -, hb2, hg0, hg1, hg2, hiok2, hX2, hY2⟩ := y5.rule hlt2
          have HV := Lib.hid (show RulV S wr (.agg #[.int .i64 g.rules[k].head, .slice pa g.rules[k].pos.length pc, .slice na g.rules[k].neg.length nc]) g.rules[k] from ⟨_, _, rfl, hiok, hX, hY⟩)
          have HV2 := Lib.hid (show RulV T wr (.agg #[.int .i64 h.rules[k].head, .slice pa2 h.rules[k].pos.length pc2, .slice na2 h.rules[k].neg.length nc2]) h.rules[k] from ⟨_, _, rfl, hiok2, hX2, hY2⟩)
          have s1 := Lib.hid (SG.out _ (List.getElem_mem hlt))
          have s2 := Lib.hid (SH.out _ (List.getElem_mem hlt2))
          have hyes := Lib.hid (fun he : g.rules[k] = h.rules[k] => all_succ hno.out hlt hlt2 he)
          have hnot := Lib.hid (fun he : g.rules[k] ≠ h.rules[k] => show g ≠ h from fun e => he (by subst e; rfl))
          obtain ⟨r, hr⟩ : ∃ r, r = g.rules[k] := ⟨_, rfl⟩
          obtain ⟨q, hq⟩ : ∃ q, q = h.rules[k] := ⟨_, rfl⟩
          rw [← hr] at hc0 hc1 hc2 HV s1 hyes hnot
          rw [← hq] at hg0 hg1 hg2 HV2 s2 hyes hnot
          have hkl : (k : Int) < (g.rules.length : Int) := by omega
          have hkl2 : (k : Int) < (h.rules.length : Int) := by omega
          have hk0 : (0 : Int) ≤ (k : Int) := by omega
          clear hX hY hX2 hY2 x5 y5 hr hq hno
          go_upto_region 6 with fail
          have Hkeep := fun {W : World} (hW : Below wr.heap.size wr W) => Lib.hid (show W.cell? ⟨w.heap.size, 1, none⟩ = some (.slice (some ⟨b, off, none⟩) g.rules.length rc) ∧ W.cell? ⟨w.heap.size + 1, 1, none⟩ = some (.slice (some ⟨b2, off2, none⟩) h.rules.length rc2) ∧ W.cell? ⟨b, off + k * 3, none⟩ = some (.int .i64 r.head) ∧ W.cell? ⟨b2, off2 + k * 3, none⟩ = some (.int .i64 q.head) ∧ W.cell? ⟨b, off + k * 3 + 1, none⟩ = some (.slice pa r.pos.length pc) ∧ W.cell? ⟨b2, off2 + k * 3 + 1, none⟩ = some (.slice pa2 q.pos.length pc2) ∧ W.cell? ⟨b, off + k * 3 + 2, none⟩ = some (.slice na r.neg.length nc) ∧ W.cell? ⟨b2, off2 + k * 3 + 2, none⟩ = some (.slice na2 q.neg.length nc2) from ⟨(hW.cell (p := ⟨w.heap.size, 1, none⟩) l0).trans c1, (hW.cell (p := ⟨w.heap.size + 1, 1, none⟩) l1).trans e1, (hW.cell (p := ⟨b, off + k * 3, none⟩) hb).trans hc0, (hW.cell (p := ⟨b2, off2 + k * 3, none⟩) hb2).trans hg0, (hW.cell (p := ⟨b, off + k * 3 + 1, none⟩) hb).trans hc1, (hW.cell (p := ⟨b2, off2 + k * 3 + 1, none⟩) hb2).trans hg1, (hW.cell (p := ⟨b, off + k * 3 + 2, none⟩) hb).trans hc2, (hW.cell (p := ⟨b2, off2 + k * 3 + 2, none⟩) hb2).trans hg2⟩)
          (try simp only [List.append_eq, List.cons_append, List.nil_append])
          refine wp_region_noPanic ?_
          refine wp_region_held_drew (S := fun w' => w'.cell? ⟨w.heap.size, 1, none⟩ = some (.slice (some ⟨b, off, none⟩) g.rules.length rc) ∧ w'.cell? ⟨w.heap.size + 1, 1, none⟩ = some (.slice (some ⟨b2, off2, none⟩) h.rules.length rc2) ∧ w'.cell? ⟨b, off + k * 3, none⟩ = some (.int .i64 r.head) ∧ w'.cell? ⟨b2, off2 + k * 3, none⟩ = some (.int .i64 q.head) ∧ w'.cell? ⟨b, off + k * 3 + 1, none⟩ = some (.slice pa r.pos.length pc) ∧ w'.cell? ⟨b2, off2 + k * 3 + 1, none⟩ = some (.slice pa2 q.pos.length pc2) ∧ w'.cell? ⟨b, off + k * 3 + 2, none⟩ = some (.slice na r.neg.length nc) ∧ w'.cell? ⟨b2, off2 + k * 3 + 2, none⟩ = some (.slice na2 q.neg.length nc2)) (by kernel_rfl) ?_ (fun hHeld => ?_)
          · exact (Hkeep (Below.drew (Below.refl _ _))).out
          refine wpAnyH_take1 (i := 0) (oi := _) (v := ?_) (by kernel_rfl) rfl (by kernel_rfl) (fun _ _ _ h => h) (Or.inl ⟨by rfl, ?_⟩) (by assumption) ?_
          rotate_left 1
          · intro w hSw; (try dsimp only at hSw); go_simp; (with_reducible rfl)
          (try simp only [Act.put, List.getElem_toArray, List.getElem_cons_zero, List.setIfInBounds_toArray, List.set_cons_zero, List.set_cons_succ])
          refine wpAnyH_take1 (i := 1) (oi := _) (v := ?_) (by kernel_rfl) rfl (by kernel_rfl) (fun _ _ _ h => h) (Or.inl ⟨by rfl, ?_⟩) (by assumption) ?_
          rotate_left 1
          · intro w hSw; (try dsimp only at hSw); go_simp; (with_reducible rfl)
          (try simp only [Act.put, List.getElem_toArray, List.getElem_cons_zero, List.getElem_cons_succ, List.setIfInBounds_toArray, List.set_cons_zero, List.set_cons_succ])
          refine wpAnyH_take1 (i := 2) (oi := _) (v := ?_) (by kernel_rfl) rfl (by kernel_rfl) (fun _ _ _ h => h) (Or.inl ⟨by rfl, ?_⟩) (by assumption) ?_
          rotate_left 1
          · intro w hSw; (try dsimp only at hSw); go_simp; (with_reducible rfl)
          (try simp only [Act.put, List.getElem_toArray, List.getElem_cons_zero, List.getElem_cons_succ, List.setIfInBounds_toArray, List.set_cons_zero, List.set_cons_succ])
          refine wpAnyH_take1 (i := 3) (oi := _) (v := ?_) (by kernel_rfl) rfl (by kernel_rfl) (fun _ _ _ h => h) (Or.inl ⟨by rfl, ?_⟩) (by assumption) ?_
          rotate_left 1
          · intro w hSw; (try dsimp only at hSw); go_simp; (with_reducible rfl)
          (try simp only [Act.put, List.getElem_toArray, List.getElem_cons_zero, List.getElem_cons_succ, List.setIfInBounds_toArray, List.set_cons_zero, List.set_cons_succ])
          refine wpAnyH_take1 (i := 4) (oi := _) (v := ?_) (by kernel_rfl) rfl (by kernel_rfl) (fun _ _ _ h => h) (Or.inl ⟨by rfl, ?_⟩) (by assumption) ?_
          rotate_left 1
          · intro w hSw; (try dsimp only at hSw); go_simp; (with_reducible rfl)
          (try simp only [Act.put, List.getElem_toArray, List.getElem_cons_zero, List.getElem_cons_succ, List.setIfInBounds_toArray, List.set_cons_zero, List.set_cons_succ])
          refine wpAnyH_take1 (i := 5) (oi := _) (v := ?_) (by kernel_rfl) rfl (by kernel_rfl) (fun _ _ _ h => h) (Or.inl ⟨by rfl, ?_⟩) (by assumption) ?_
          rotate_left 1
          · intro w hSw; (try dsimp only at hSw); go_simp; (with_reducible rfl)
          (try simp only [Act.put, List.getElem_toArray, List.getElem_cons_zero, List.getElem_cons_succ, List.setIfInBounds_toArray, List.set_cons_zero, List.set_cons_succ])
          refine wpAnyH_take1 (i := 6) (oi := _) (v := ?_) (by kernel_rfl) rfl (by kernel_rfl) (fun _ _ _ h => h) (Or.inl ⟨by rfl, ?_⟩) (by assumption) ?_
          rotate_left 1
          · intro w hSw; (try dsimp only at hSw); go_simp; (with_reducible rfl)
          (try simp only [Act.put, List.getElem_toArray, List.getElem_cons_zero, List.getElem_cons_succ, List.setIfInBounds_toArray, List.set_cons_zero, List.set_cons_succ])
          refine wpAnyH_take1 (i := 7) (oi := _) (v := ?_) (by kernel_rfl) rfl (by kernel_rfl) (fun _ _ _ h => h) (Or.inl ⟨by rfl, ?_⟩) (by assumption) ?_
          rotate_left 1
          · intro w hSw; (try dsimp only at hSw); go_simp; (with_reducible rfl)
          (try simp only [Act.put, List.getElem_toArray, List.getElem_cons_zero, List.getElem_cons_succ, List.setIfInBounds_toArray, List.set_cons_zero, List.set_cons_succ])
          refine wpAnyH_take1 (i := 8) (oi := _) (v := ?_) (by kernel_rfl) rfl (by kernel_rfl) (fun _ _ _ h => h) (Or.inl ⟨by rfl, ?_⟩) (by assumption) ?_
          rotate_left 1
          · intro w hSw; (try dsimp only at hSw); go_simp; (with_reducible rfl)
          (try simp only [Act.put, List.getElem_toArray, List.getElem_cons_zero, List.getElem_cons_succ, List.setIfInBounds_toArray, List.set_cons_zero, List.set_cons_succ])
          refine wpAnyH_take1 (i := 9) (oi := _) (v := ?_) (by kernel_rfl) rfl (by kernel_rfl) (fun _ _ _ h => h) (Or.inl ⟨by rfl, ?_⟩) (by assumption) ?_
          rotate_left 1
          · intro w hSw; (try dsimp only at hSw); go_simp; (with_reducible rfl)
          (try simp only [Act.put, List.getElem_toArray, List.getElem_cons_zero, List.getElem_cons_succ, List.setIfInBounds_toArray, List.set_cons_zero, List.set_cons_succ])
          refine wpAnyH_one (i := 10) (by kernel_rfl) rfl (by rfl) fun K hK => ?_
          go_simp
          refine ((OrderR_spec (HV.out.at Seq.way) (HV2.out.at Seq.way) s1.out s2.out)).mono ?_
          rintro e y1 ⟨_, rfl, hy1, r1, rfl, hs1⟩
          have HY1 := below_step hy1 (Seq.way : Below wr.heap.size wr _)
          have zy1 := HY1.size
          (try dsimp only)
          clear hHeld
          refine hK.out _ _ (Hkeep HY1).out fun hHeld => ?_
          clear hK K
          (try simp only [Act.put, List.getElem_toArray, List.getElem_cons_zero, List.getElem_cons_succ, List.setIfInBounds_toArray, List.set_cons_zero, List.set_cons_succ])
          have HS1 := Lib.hid hs1
          clear hs1
          by_cases hz : r1 = 0
          · have hdd : (r1 != 0) = false := by simp [hz]
            have hy' := Lib.hid (hyes.out (cmpU_ok.zero.1 (HS1.out.2.1 hz)))
            clear hz hyes hnot
            refine wpAnyH_take1 (i := 11) (oi := _) (v := ?_) (by kernel_rfl) rfl (by kernel_rfl) (fun _ _ _ h => h) (Or.inl ⟨by rfl, ?_⟩) (by assumption) ?_
            rotate_left 1
            · intro w hSw; (try dsimp only at hSw); go_simp; (with_reducible rfl)
            (try simp only [Act.put, List.getElem_toArray, List.getElem_cons_zero, List.getElem_cons_succ, List.setIfInBounds_toArray, List.set_cons_zero, List.set_cons_succ])
            refine wpAnyH_done (by kernel_rfl) ?_ _
            refine NoPanic.normal ?_
            go_wp2_with fail
            go_roundw
            case rel => exact ⟨k + 1, hlt, by go_num, hy', Lib.hid (below_step HY1 hbr.out)⟩
            case measure => simp [intOf]; omega
          · have hdd : (r1 != 0) = true := by simpa using hz
            have hn' := Lib.hid (decide_eq_false (hnot.out fun e => hz (HS1.out.2.2 (cmpU_ok.zero.2 e))))
            clear hz hyes hnot
            refine wpAnyH_take1 (i := 11) (oi := _) (v := ?_) (by kernel_rfl) rfl (by kernel_rfl) (fun _ _ _ h => h) (Or.inl ⟨by rfl, ?_⟩) (by assumption) ?_
            rotate_left 1
            · intro w hSw; (try dsimp only at hSw); go_simp; (with_reducible rfl)
            (try simp only [Act.put, List.getElem_toArray, List.getElem_cons_zero, List.getElem_cons_succ, List.setIfInBounds_toArray, List.set_cons_zero, List.set_cons_succ])
            refine wpAnyH_done (by kernel_rfl) ?_ _
            refine NoPanic.normal ?_
            go_wp2_with fail
            go_ret
            exact ⟨ret_bool hn'.out.symm, below_step HY1 hbw.out⟩
        · have hres := Lib.hid (decide_eq_true (show g = h from prog_ext HAe.out (all_eq (fun j hj => hno.out j (by omega)) HLe.out)))
          have hkl : ¬ (k : Int) < (g.rules.length : Int) := by omega
          clear hno
          go_wp2_with fail
          go_ret
          exact ⟨ret_bool hres.out.symm, hbw.out⟩
    · rw [decide_eq_false he]
      have hres := Lib.hid (decide_eq_false (show ¬ g = h from fun e => he (by rw [e])))
      clear he
      go_wp2_with fail
      go_ret
      exact ⟨ret_bool hres.out.symm, below_step B1.out HB.out⟩
  · have hd1 : (((g.rules.length : Nat) : Int) != ((h.rules.length : Nat) : Int)) = true := by simp; omega
    have hres := Lib.hid (decide_eq_false (show ¬ g = h from fun e => hl (by rw [e])))
    clear hl
    go_upto_region 1 with fail
    rw [← HW.out]
    have c1 := HP.out.cell (j := 1) (by simp)
    have e1 := HP2.out.cell (j := 1) (by simp)
    simp only [List.getElem_cons_zero, List.getElem_cons_succ] at c1 e1
    go_wp2_with fail
    go_ret
    exact ⟨ret_bool hres.out.symm, HB.out⟩
end Go.Proofs.YtaedgpcmkagpeaaGreat
