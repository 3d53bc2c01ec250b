/-
  Layer 7, the document: predicates put into their row; all predicates.
  Layer 7, the document: all predicates of clauses.
-/
import Derived.Test.YtadbdmnngmlnhaaPgG
import Derived.Deep.DeepCutAuto
namespace Go.Proofs.Ytadbdmnngmlnhaa
section
open Go Go.RowKit

theorem infoPrd : (Try.prog.info? 24).map (fun i => (i.zero, i.size, i.bytes)) = some (some (.agg #[.string ⟨#[]⟩, .int .i64 0]), 2, 24) := by kernel_rfl
theorem infoLnk : (Try.prog.info? 57).map (fun i => (i.zero, i.size, i.bytes)) = some (some (.agg #[.int .i64 0, .int .i64 0, .bool false]), 3, 24) := by kernel_rfl
section
variable {P : Program} {ops : Array Oper} {rest : List Oper} {o : Oper} {a : Act} {Q : Exit → Act → World → Prop}
theorem wpList_app_prd {S : Nat → Prop} {w wm : World} (hgd : o.guard = none) (s x : Operand) (t : TypeId)
    (ho : o.op = .call { callee := .builtin .append, args := #[s, x], argTypes := #[t, t] })
    {base : Nat} {e : TypeId} (ht : P.underlying t = some (.slice e)) (hi : (P.info? e).map (fun i => (i.zero, i.size, i.bytes)) = some (some (.agg #[.string ⟨#[]⟩, .int .i64 0]), 2, 24))
    {v : Value} {xs : List Prd} (hs : a.eval s = v) (hown : Own prdE S base e wm v xs) {B c : Nat} (hx : a.eval x = .slice (some ⟨B, 0, none⟩) 1 c)
    (hbw : Below wm.heap.size wm w) {y : Prd} (h1 : y.name.size ≤ 140737488355328) (h2 : IntOK y.n)
    (hc0 : w.cell? ⟨B, 0, none⟩ = some (.string y.name)) (hc1 : w.cell? ⟨B, 1, none⟩ = some (.int .i64 y.n)) (hbytes : xs.length ≤ 1000000000000) (hbase : base ≤ wm.heap.size)
    (h : ∀ ao cap w', Own prdE S base e w' (.slice ao (xs.length + 1) cap) (xs ++ [y]) → Kept base wm w w' v (.slice ao (xs.length + 1) cap) → wpList P ops Q rest (a.put o.dst (.slice ao (xs.length + 1) cap)) w') : wpList P ops Q (o :: rest) a w :=
  wpList_app1 (E := prdE) (Sy := fun _ => False) (y := y) (cs := [.string y.name, .int .i64 y.n]) hgd s x t ho ht hi rfl hs hown hbw _ _ hx ⟨rfl, h1, h2⟩ (fun _ h => h.elim)
    (by
      intro j hj
      have h3 : j < 2 := hj
      rcases (show j = 0 ∨ j = 1 by omega) with rfl | rfl
      · exact hc0
      · exact hc1) (by omega) (by simp only [maxLen]; omega) hbase
    fun ao cap w' h1 h2 h3 h4 => h ao cap w' h1 (Kept.of h2 h3 hbw hbase h4)
theorem wpList_app_lnk {S : Nat → Prop} {w wm : World} (hgd : o.guard = none) (s x : Operand) (t : TypeId)
    (ho : o.op = .call { callee := .builtin .append, args := #[s, x], argTypes := #[t, t] })
    {base : Nat} {e : TypeId} (ht : P.underlying t = some (.slice e)) (hi : (P.info? e).map (fun i => (i.zero, i.size, i.bytes)) = some (some (.agg #[.int .i64 0, .int .i64 0, .bool false]), 3, 24))
    {v : Value} {xs : List Lnk} (hs : a.eval s = v) (hown : Own lnkE S base e wm v xs) {B c : Nat} (hx : a.eval x = .slice (some ⟨B, 0, none⟩) 1 c)
    (hbw : Below wm.heap.size wm w) {y : Lnk} (h1 : y.fr ≤ 1000000) (h2 : y.to ≤ 1000000)
    (hc0 : w.cell? ⟨B, 0, none⟩ = some (.int .i64 y.fr)) (hc1 : w.cell? ⟨B, 1, none⟩ = some (.int .i64 y.to)) (hc2 : w.cell? ⟨B, 2, none⟩ = some (.bool y.neg)) (hbytes : xs.length ≤ 1000000000000) (hbase : base ≤ wm.heap.size)
    (h : ∀ ao cap w', Own lnkE S base e w' (.slice ao (xs.length + 1) cap) (xs ++ [y]) → Kept base wm w w' v (.slice ao (xs.length + 1) cap) → wpList P ops Q rest (a.put o.dst (.slice ao (xs.length + 1) cap)) w') : wpList P ops Q (o :: rest) a w :=
  wpList_app1 (E := lnkE) (Sy := fun _ => False) (y := y) (cs := [.int .i64 y.fr, .int .i64 y.to, .bool y.neg]) hgd s x t ho ht hi rfl hs hown hbw _ _ hx ⟨rfl, h1, h2⟩ (fun _ h => h.elim)
    (by
      intro j hj
      have h3 : j < 3 := hj
      rcases (show j = 0 ∨ j = 1 ∨ j = 2 by omega) with rfl | rfl | rfl
      · exact hc0
      · exact hc1
      · exact hc2) (by omega) (by simp only [maxLen]; omega) hbase
    fun ao cap w' h1 h2 h3 h4 => h ao cap w' h1 (Kept.of h2 h3 hbw hbase h4)
end

theorem cmpP_cases (x p : Prd) : (Op.bytesLess x.name.toList p.name.toList = true ∧ cmpP x p < 0) ∨ (Op.bytesLess x.name.toList p.name.toList = false ∧ (x.name.toList == p.name.toList) = false ∧ ¬ cmpP x p < 0) ∨
    (Op.bytesLess x.name.toList p.name.toList = false ∧ (x.name.toList == p.name.toList) = true ∧ x.n < p.n ∧ cmpP x p < 0) ∨ (Op.bytesLess x.name.toList p.name.toList = false ∧ (x.name.toList == p.name.toList) = true ∧ ¬ x.n < p.n ∧ ¬ cmpP x p < 0) := by
  unfold cmpP
  cases h1 : Op.bytesLess x.name.toList p.name.toList with
  | true =>
    have h2 := cmpS_lt.2 h1
    exact .inl ⟨rfl, by rw [if_pos (by omega)]; exact h2⟩
  | false =>
    have h2 : ¬ cmpS x.name p.name < 0 := fun e => by rw [cmpS_lt.1 e] at h1; cases h1
    by_cases h3 : x.name.toList = p.name.toList
    · have h4 := toList_inj h3
      have h5 : cmpS x.name p.name = 0 := cmpS_zero.2 h4
      rw [if_neg (by simp [h5])]
      by_cases h6 : x.n < p.n
      · exact .inr (.inr (.inl ⟨rfl, by simp [h3], h6, cmpZ_lt.2 h6⟩))
      · exact .inr (.inr (.inr ⟨rfl, by simp [h3], h6, fun e => h6 (cmpZ_lt.1 e)⟩))
    · have h5 : cmpS x.name p.name ≠ 0 := fun e => h3 (by rw [cmpS_zero.1 e])
      rw [if_pos h5]
      exact .inr (.inl ⟨rfl, by simpa using h3, h2⟩)

theorem lowC_pos {α : Type} {c : α → α → Int} {x y : α} {l : List α} (h : c y x < 0) : lowC c x (y :: l) = lowC c x l + 1 := by
  unfold lowC; rw [List.takeWhile_cons, if_pos (by simpa using h)]; rfl
theorem lowC_neg {α : Type} {c : α → α → Int} {x y : α} {l : List α} (h : ¬ c y x < 0) : lowC c x (y :: l) = 0 := by
  unfold lowC; rw [List.takeWhile_cons, if_neg (by simpa using h)]; rfl
/-- One more put in, as rows. -/
theorem insC_parts {α : Type} [DecidableEq α] {c : α → α → Int} (hc : Cmp c) (x : α) : ∀ l : List α, insC c x l = l.take (lowC c x l) ++ x :: (if l[lowC c x l]? = some x then l.drop (lowC c x l + 1) else l.drop (lowC c x l))
  | [] => by simp [insC, lowC]
  | y :: l => by
    unfold insC
    by_cases h1 : c y x < 0
    · rw [if_pos h1, lowC_pos h1, List.take_succ_cons, List.getElem?_cons_succ, List.drop_succ_cons, List.drop_succ_cons, insC_parts hc x l]
      rfl
    · rw [if_neg h1, lowC_neg h1]
      by_cases h2 : c y x = 0
      · rw [if_pos h2, hc.zero.1 h2]; simp
      · rw [if_neg h2]
        have : ¬ y = x := fun e => h2 (hc.zero.2 e)
        simp [this]

theorem own_prdS {S T : Nat → Prop} {base : Nat} {e : TypeId} {w : World} {v : Value} {xs : List Prd} (h : Own prdE S base e w v xs) : Own prdE T base e w v xs := by
  obtain ⟨vs, h1, h2⟩ := h
  exact ⟨vs, h1, fun k x hx => h2 k x hx⟩
theorem own_lnkS {S T : Nat → Prop} {base : Nat} {e : TypeId} {w : World} {v : Value} {xs : List Lnk} (h : Own lnkE S base e w v xs) : Own lnkE T base e w v xs := by
  obtain ⟨vs, h1, h2⟩ := h
  exact ⟨vs, h1, fun k x hx => h2 k x hx⟩

set_option maxHeartbeats 3200000 in
set_option maxRecDepth 100000 in
theorem PutR_spec {S : Nat → Prop} {w : World} {v : Value} {l : List Prd} {p : Prd} (hl : Seq prdE S w v l) (hs : Srt cmpP l) (hll : l.length ≤ 1000000) (hp1 : p.name.size ≤ 140737488355328) (hp2 : IntOK p.n) :
    Calls Try.prog 53 #[v, .agg #[.string p.name, .int .i64 p.n]] w (Ret (fun r w' => Seq prdE (fun b => w.heap.size ≤ b) w' r (insC cmpP p l)) w) := by
  obtain ⟨W, hW⟩ : ∃ W, W = w.alloc (.cells #[.string p.name, .int .i64 p.n] 24) := ⟨_, rfl⟩
  have hbW : Below w.heap.size w W := by rw [hW]; exact Seq.way
  have HR := Lib.hid (show RowA 24 W w.heap.size [.string p.name, .int .i64 p.n] by rw [hW]; exact Row.new w [_, _] _ rfl)
  have HBW := Lib.hid hbW
  have HW := Lib.hid hW
  have HL := Lib.hid ((hl.at hbW).bnd)
  obtain ⟨aa, ac, rfl, -⟩ := hl
  have hlow := Lib.hid (fun k hk => lowC_lt cmpP_ok (x := p) hs k hk)
  have hle := lowC_le (c := cmpP) p l
  have hpa := Lib.hid (insC_parts cmpP_ok p l)
  obtain ⟨m, hm⟩ : ∃ m, m = lowC cmpP p l := ⟨_, rfl⟩
  rw [← hm] at hlow hle hpa
  clear hW hbW hm hs
  go_enter Try.func53, Try.ntmps53
  go_upto_region 1 with fail
  rw [← HW.out]
  have hfL := fun {w' : World} (h : Below W.heap.size W w') => Lib.hid (HL.out.at h)
  have hfR := fun {w' : World} (h : Below W.heap.size W w') => Lib.hid (show w'.cell? ⟨w.heap.size, 0, none⟩ = some (.string p.name) ∧ w'.cell? ⟨w.heap.size, 1, none⟩ = some (.int .i64 p.n) from ⟨(HR.out.at h).row.cell (j := 0) (by simp), (HR.out.at h).row.cell (j := 1) (by simp)⟩)
  have hzW := HBW.out.size
  go_upto_block 0 with fail
  go_cut [5, 6] (fun o i wc => Hid (Own prdE (fun _ => True) W.heap.size 24 wc o (l.take m)) ∧ i = .int .i64 m ∧ Hid (Below W.heap.size W wc))
  case first =>
    go_wp2_with fail
    go_loopw [5, 6] (fun o i wr => ∃ k : Nat, k ≤ m ∧ i = .int .i64 k ∧ Hid (Own prdE (fun _ => True) W.heap.size 24 wr o (l.take k)) ∧ Hid (Below W.heap.size W wr)) (fun _ i _ => m - (intOf i).toNat)
    case atStart => exact ⟨0, Nat.zero_le _, rfl, Lib.hid (Own.lit0 rfl (Nat.le_refl _) rfl), Lib.hid Seq.way⟩
    case round =>
      obtain ⟨k, hk, rfl, hO, hbr⟩ := hrel
      obtain ⟨r0, r1⟩ := (hfR hbr.out).out
      have hzr := hbr.out.size
      by_cases hkl : k < l.length
      · obtain ⟨_, _, ee, -, -, -, -, x5⟩ := (hfL hbr.out).out
        simp only [Value.slice.injEq, true_and] at ee
        obtain ⟨rfl, rfl⟩ := ee
        obtain ⟨b1, o1, rfl, hS1, l1, c0, c1, ok0, ok1⟩ := x5.prd hkl
        have hst := Lib.hid (show l.take (k + 1) = l.take k ++ [l[k]] from List.take_succ_eq_append_getElem hkl)
        have hq := Lib.hid (hlow.out k hkl)
        obtain ⟨x, hx⟩ : ∃ x, x = l[k] := ⟨_, rfl⟩
        rw [← hx] at c0 c1 hst hq ok0 ok1
        have hkI : (k : Int) < (l.length : Int) := by omega
        have hk0 : (0 : Int) ≤ (k : Int) := by omega
        have hpx : True := trivial
        clear hx x5
        rcases cmpP_cases x p with ⟨q1, q4⟩ | ⟨q1, q2, q4⟩ | ⟨q1, q2, q3, q4⟩ | ⟨q1, q2, q3, q4⟩
        · have hkm : k < m := hq.out.2 q4
          clear hq hpx q4
          go_wp2_with fail
          go_quiet (fail)
          go_wp2_with (at_builtin; (refine wpList_app_prd (wm := wr) (y := x) rfl _ _ 36 rfl Try.underlying36 infoPrd rfl hO.out rfl Seq.way ok0 ok1 ((Row.new _ [_, _] _ rfl).cell (j := 0) (by simp)) ((Row.new _ [_, _] _ rfl).cell (j := 1) (by simp)) (by simp; omega) hzr ?_))
          intro ao cap w5 hown5 hk5
          have H5 := Lib.hid hown5
          have K5 := Lib.hid (hbr.out.trans (Below.trans (Below.mono (Seq.way : Below wr.heap.size wr _) hzr) hk5.below))
          clear hown5 hk5
          go_wp2_with fail
          go_roundw
          case rel => exact ⟨k + 1, hkm, by go_num, Lib.hid (by rw [hst.out]; simpa using H5.out), K5⟩
          case measure => simp [intOf]; omega
        · have hkm := Lib.hid (show k = m by have : ¬ k < m := fun e => q4 (hq.out.1 e); omega)
          clear hq hpx q4
          go_wp2_with fail
          go_quiet (fail)
          go_wp2_with fail
          go_meet
          exact ⟨Lib.hid (by rw [← hkm.out]; exact hO.out.move Seq.way), by rw [hkm.out], Lib.hid (below_step Seq.way hbr.out)⟩
        · have hkm : k < m := hq.out.2 q4
          clear hq hpx q4
          go_wp2_with fail
          go_quiet (fail)
          go_wp2_with (at_builtin; (refine wpList_app_prd (wm := wr) (y := x) rfl _ _ 36 rfl Try.underlying36 infoPrd rfl hO.out rfl Seq.way ok0 ok1 ((Row.new _ [_, _] _ rfl).cell (j := 0) (by simp)) ((Row.new _ [_, _] _ rfl).cell (j := 1) (by simp)) (by simp; omega) hzr ?_))
          intro ao cap w5 hown5 hk5
          have H5 := Lib.hid hown5
          have K5 := Lib.hid (hbr.out.trans (Below.trans (Below.mono (Seq.way : Below wr.heap.size wr _) hzr) hk5.below))
          clear hown5 hk5
          go_wp2_with fail
          go_roundw
          case rel => exact ⟨k + 1, hkm, by go_num, Lib.hid (by rw [hst.out]; simpa using H5.out), K5⟩
          case measure => simp [intOf]; omega
        · have hkm := Lib.hid (show k = m by have : ¬ k < m := fun e => q4 (hq.out.1 e); omega)
          clear hq hpx q4
          go_wp2_with fail
          go_quiet (fail)
          go_wp2_with fail
          go_meet
          exact ⟨Lib.hid (by rw [← hkm.out]; exact hO.out.move Seq.way), by rw [hkm.out], Lib.hid (below_step Seq.way hbr.out)⟩
      · have hkm := Lib.hid (show k = m by omega)
        go_wp2_with fail
        go_quiet (fail)
        go_wp2_with fail
        go_meet
        exact ⟨Lib.hid (by rw [← hkm.out]; exact hO.out.move Seq.way), by rw [hkm.out], Lib.hid (below_step Seq.way hbr.out)⟩
  case rest =>
    obtain ⟨hO, rfl, hbr⟩ := hcut
    obtain ⟨r0, r1⟩ := (hfR hbr.out).out
    have hzr := hbr.out.size
    obtain ⟨T, hT⟩ : ∃ T, T = l.take m := ⟨_, rfl⟩
    have hTl : T.length ≤ 1000000 := by rw [hT, List.length_take]; omega
    rw [← hT] at hO
    have hTx := Lib.hid hT
    clear hT
    go_wp2_with (at_builtin; (refine wpList_app_prd (wm := wc) (y := p) rfl _ _ 36 rfl Try.underlying36 infoPrd rfl hO.out rfl Seq.way hp1 hp2 ((Row.new _ [_, _] _ rfl).cell (j := 0) (by simp)) ((Row.new _ [_, _] _ rfl).cell (j := 1) (by simp)) (by omega) hzr ?_))
    intro ao cap w5 hown5 hk5
    have H5 := Lib.hid hown5
    have HB5 := Lib.hid (hbr.out.trans (Below.trans (Below.mono (Seq.way : Below wc.heap.size wc _) hzr) hk5.below))
    clear hown5 hk5 r0 r1
    obtain ⟨r0, r1⟩ := (hfR HB5.out).out
    by_cases hkl : m < l.length
    · obtain ⟨_, _, ee, hcap, -, -, -, x5⟩ := (hfL HB5.out).out
      simp only [Value.slice.injEq, true_and] at ee
      obtain ⟨rfl, rfl⟩ := ee
      obtain ⟨b1, o1, rfl, hS1, l1, c0, c1, ok0, ok1⟩ := x5.prd hkl
      have hlm := Lib.hid (List.getElem?_eq_getElem hkl)
      obtain ⟨x, hx⟩ : ∃ x, x = l[m] := ⟨_, rfl⟩
      rw [← hx] at c0 c1 hlm
      have hkI : (m : Int) < (l.length : Int) := by omega
      have hk0 : (0 : Int) ≤ (m : Int) := by omega
      clear hx x5
      by_cases he : x = p
      · obtain rfl : p = x := he.symm
        obtain ⟨SB, hif⟩ : ∃ SB, (if ac = m + 1 then (some ⟨b1, o1, none⟩ : Option Addr) else some ⟨b1, o1 + (m + 1) * 2, none⟩) = SB := ⟨_, rfl⟩
        have hkn : ((m : Int) + 1).toNat = m + 1 := by omega
        have hk1 : (0 : Int) ≤ (m : Int) + 1 := by omega
        have hk2 : (m : Int) + 1 ≤ (l.length : Int) := by omega
        go_wp2_with fail
        go_quiet (fail)
        obtain ⟨D, hD⟩ : ∃ D, D = l.drop (m + 1) := ⟨_, rfl⟩
        have hDl : D.length ≤ 1000000 := by rw [hD, List.length_drop]; omega
        have HDs := Lib.hid (show Seq prdE _ w5 (.slice SB (l.length - (m + 1)) (ac - (m + 1))) D by rw [hD]; exact (hfL HB5.out).out.drop (i := m + 1) (by omega) (bo := SB) (hif.symm.trans (by simp [Addr.add_lit, prdE])) rfl rfl)
        obtain ⟨Z, hZ⟩ : ∃ Z, Z = (T ++ [p]) ++ D := ⟨_, rfl⟩
        have hZl : Z.length ≤ 2000001 := by rw [hZ]; simp; omega
        have HZ := Lib.hid hZ
        have hfin := Lib.hid (show insC cmpP p l = Z by rw [HZ.out, hpa.out, ← hTx.out, hD]; rw [hlm.out, if_pos rfl]; simp)
        clear hD hZ
        go_wp2_with (at_builtin; go_loud (refine wpList_appL (S := fun _ => True) (base := W.heap.size) (wm := w5) (zs := Z) rfl _ _ 36 rfl Try.underlying36 infoPrd rfl rfl H5.out Seq.way rfl (HDs.out.at Seq.way) (fun b h _ => ⟨trivial, .inl h.2⟩) HZ.out (by omega) (by omega) HB5.out.size ?_))
        intro ao7 cap7 w7 hown7 hk7
        have H7 := Lib.hid hown7
        have K7 := Lib.hid (HB5.out.trans (Below.trans (Below.mono (Seq.way : Below w5.heap.size w5 _) HB5.out.size) hk7.below))
        clear hown7 hk7
        go_wp2_with fail
        go_ret
        refine ⟨_, rfl, below_step K7.out HBW.out, ?_⟩
        rw [hfin.out]
        exact (own_prdS (T := fun _ => False) H7.out).seq (by omega) fun b _ h => h.elim False.elim fun h => Nat.le_trans hzW h
      · have hif : (if ac = m then (some ⟨b1, o1, none⟩ : Option Addr) else some ⟨b1, o1 + m * 2, none⟩) = some ⟨b1, o1 + m * 2, none⟩ := if_neg (by omega)
        have hne := Lib.hid he
        rcases prd_ne he with q1 | ⟨q1, q2⟩
        all_goals
          clear he
          go_wp2_with fail
          go_quiet (fail)
          obtain ⟨D, hD⟩ : ∃ D, D = l.drop (m) := ⟨_, rfl⟩
          have hDl : D.length ≤ 1000000 := by rw [hD, List.length_drop]; omega
          have HDs := Lib.hid (show Seq prdE _ w5 (.slice (some ⟨b1, o1 + m * 2, none⟩) (l.length - (m)) (ac - (m))) D by rw [hD]; exact (hfL HB5.out).out.drop (i := m) (by omega) (bo := some ⟨b1, o1 + m * 2, none⟩) (hif.symm.trans (by simp [Addr.add_lit, prdE])) rfl rfl)
          obtain ⟨Z, hZ⟩ : ∃ Z, Z = (T ++ [p]) ++ D := ⟨_, rfl⟩
          have hZl : Z.length ≤ 2000001 := by rw [hZ]; simp; omega
          have HZ := Lib.hid hZ
          have hfin := Lib.hid (show insC cmpP p l = Z by rw [HZ.out, hpa.out, ← hTx.out, hD]; rw [hlm.out, if_neg (fun e => hne.out (Option.some.inj e))]; simp)
          clear hD hZ
          go_wp2_with (at_builtin; go_loud (refine wpList_appL (S := fun _ => True) (base := W.heap.size) (wm := w5) (zs := Z) rfl _ _ 36 rfl Try.underlying36 infoPrd rfl rfl H5.out Seq.way rfl (HDs.out.at Seq.way) (fun b h _ => ⟨trivial, .inl h.2⟩) HZ.out (by omega) (by omega) HB5.out.size ?_))
          intro ao7 cap7 w7 hown7 hk7
          have H7 := Lib.hid hown7
          have K7 := Lib.hid (HB5.out.trans (Below.trans (Below.mono (Seq.way : Below w5.heap.size w5 _) HB5.out.size) hk7.below))
          clear hown7 hk7
          go_wp2_with fail
          go_ret
          refine ⟨_, rfl, below_step K7.out HBW.out, ?_⟩
          rw [hfin.out]
          exact (own_prdS (T := fun _ => False) H7.out).seq (by omega) fun b _ h => h.elim False.elim fun h => Nat.le_trans hzW h
    · have hml := Lib.hid (show m = l.length by omega)
      have hkI : ¬ (m : Int) < (l.length : Int) := by omega
      obtain ⟨SB, hif⟩ : ∃ SB, (if ac = m then aa else aa.map (fun x => x.add (m * 2))) = SB := ⟨_, rfl⟩
      have hk2 : (m : Int) ≤ (l.length : Int) := by omega
      have hk0 : (0 : Int) ≤ (m : Int) := by omega
      go_wp2_with fail
      go_quiet (fail)
      obtain ⟨D, hD⟩ : ∃ D, D = l.drop (m) := ⟨_, rfl⟩
      have hDl : D.length ≤ 1000000 := by rw [hD, List.length_drop]; omega
      have HDs := Lib.hid (show Seq prdE _ w5 (.slice SB (l.length - (m)) (ac - (m))) D by rw [hD]; exact (hfL HB5.out).out.drop (i := m) (by omega) (bo := SB) (hif.symm.trans (by simp [prdE])) rfl rfl)
      obtain ⟨Z, hZ⟩ : ∃ Z, Z = (T ++ [p]) ++ D := ⟨_, rfl⟩
      have hZl : Z.length ≤ 2000001 := by rw [hZ]; simp; omega
      have HZ := Lib.hid hZ
      have hfin := Lib.hid (show insC cmpP p l = Z by rw [HZ.out, hpa.out, ← hTx.out, hD]; rw [if_neg (by rw [List.getElem?_eq_none (by have := hml.out; omega)]; simp)]; simp)
      clear hD hZ
      go_wp2_with (at_builtin; go_loud (refine wpList_appL (S := fun _ => True) (base := W.heap.size) (wm := w5) (zs := Z) rfl _ _ 36 rfl Try.underlying36 infoPrd rfl rfl H5.out Seq.way rfl (HDs.out.at Seq.way) (fun b h _ => ⟨trivial, .inl h.2⟩) HZ.out (by omega) (by omega) HB5.out.size ?_))
      intro ao7 cap7 w7 hown7 hk7
      have H7 := Lib.hid hown7
      have K7 := Lib.hid (HB5.out.trans (Below.trans (Below.mono (Seq.way : Below w5.heap.size w5 _) HB5.out.size) hk7.below))
      clear hown7 hk7
      go_wp2_with fail
      go_ret
      refine ⟨_, rfl, below_step K7.out HBW.out, ?_⟩
      rw [hfin.out]
      exact (own_prdS (T := fun _ => False) H7.out).seq (by omega) fun b _ h => h.elim False.elim fun h => Nat.le_trans hzW h
end
section
open Go Go.RowKit

theorem prT_ok {S : Nat → Prop} {w : World} {v : Value} {t : List Cell} (ht : Seq cellE S w v t) (hl : 0 < t.length) : (prT t).name.size ≤ 140737488355328 ∧ IntOK (prT t).n := by
  obtain ⟨ta, tc, rfl, -, -, -, -, x5⟩ := ht
  obtain ⟨b, o, -, -, -, -, -, -, -, h1, h2⟩ := x5.cell hl
  rw [prT_head hl]
  exact ⟨h2, h1⟩
theorem allP_succ {l : List Cls} {k : Nat} (h : k < l.length) : allP (l.take (k + 1)) = allP (l.take k) ++ prT l[k].head :: l[k].body.map fun b => prT b.t := by
  unfold allP; rw [List.take_succ_eq_append_getElem h, List.flatMap_append]; simp
theorem allP_len {l : List Cls} (h : ∀ c ∈ l, mayC c = true) : (allP l).length ≤ 9 * l.length := by
  induction l with
  | nil => simp [allP]
  | cons c l ih =>
    have h1 := ih fun x hx => h x (List.mem_cons_of_mem _ hx)
    have h2 := (mayC_parts (h c List.mem_cons_self)).2.2
    have h3 : (allP (c :: l)).length = (c.body.length + 1) + (allP l).length := by unfold allP; rw [List.flatMap_cons, List.length_append]; simp
    rw [h3, List.length_cons]; omega

set_option maxHeartbeats 3200000 in
set_option maxRecDepth 100000 in
theorem PredsR_spec {S : Nat → Prop} {w : World} {v : Value} {l : List Cls} (hl : Seq clsE S w v l) (hmay : ∀ c ∈ l, mayC c = true) (hlen : l.length ≤ 1000) :
    Calls Try.prog 21 #[v] w (Ret (fun r w' => Seq prdE (fun b => w.heap.size ≤ b) w' r (predsL l)) w) := by
  have HL := Lib.hid hl
  have HMay := Lib.hid hmay
  obtain ⟨aa, ac, rfl, -⟩ := hl
  clear hmay
  have hfL := fun {w' : World} (h : Below w.heap.size w w') => Lib.hid (HL.out.at h)
  go_enter Try.func21, Try.ntmps21
  go_wp2_with fail
  go_loopw [3, 4] (fun o i wr => ∃ k : Nat, k ≤ l.length ∧ i = .int .i64 k ∧ Hid (Seq prdE (fun b => w.heap.size ≤ b) wr o (setL cmpP (allP (l.take k)))) ∧ Hid (Below w.heap.size w wr)) (fun _ i _ => l.length - (intOf i).toNat)
  case atStart => exact ⟨0, Nat.zero_le _, rfl, Lib.hid ((Own.lit0 (E := prdE) (S := fun _ => False) (e := 24) (w := w) rfl (Nat.le_refl _) rfl).seq (by simp) (fun b _ hb => hb.elim False.elim id)), Lib.hid Seq.way⟩
  case round =>
    obtain ⟨k, hk, rfl, hO, hbr⟩ := hrel
    obtain ⟨oa, oc, rfl⟩ := hO.out.shape
    have hzr := hbr.out.size
    by_cases hlt : k < l.length
    · obtain ⟨_, _, ee, -, -, -, -, x5⟩ := (hfL hbr.out).out
      simp only [Value.slice.injEq, true_and] at ee
      obtain ⟨rfl, rfl⟩ := ee
      obtain ⟨b1, o1, ha, hc, la, lc, rfl, -, l1, c0, c1, hH, hB⟩ := x5.cls hlt
      have hst := Lib.hid (allP_succ hlt)
      have hAl := allP_len (l := l.take k) fun c hc => HMay.out c (List.mem_of_mem_take hc)
      rw [List.length_take] at hAl
      obtain ⟨m1, m2, m3⟩ := mayC_parts (HMay.out _ (List.getElem_mem hlt))
      have HH := Lib.hid hH
      have HB := Lib.hid hB
      obtain ⟨c, hcx⟩ : ∃ c, c = l[k] := ⟨_, rfl⟩
      rw [← hcx] at c0 c1 HH HB hst m1 m2 m3
      have hM1 := Lib.hid m1
      have hpos := m2.pos
      obtain ⟨A, hA⟩ : ∃ A, A = allP (l.take k) := ⟨_, rfl⟩
      rw [← hA] at hO hst hAl ⊢
      have hkI : (k : Int) < (l.length : Int) := by omega
      have hk0 : (0 : Int) ≤ (k : Int) := by omega
      have hAl2 : A.length ≤ 9000 := by omega
      clear hcx x5 hH hB m1 m2 hA hAl
      go_wp2_with fail
      refine (PredR_spec (HH.out.at Seq.way) (by omega)).mono ?_
      rintro e y1 ⟨rfl, hb1⟩
      replace hb1 := below_step hb1 (Seq.way : Below wr.heap.size wr _)
      have Hb1 := Lib.hid hb1
      obtain ⟨p1, p2⟩ := prT_ok HH.out hpos
      obtain ⟨P, hP⟩ : ∃ P, P = prT c.head := ⟨_, rfl⟩
      rw [← hP] at hst p1 p2 ⊢
      unfold prdV
      have HO1 := Lib.hid (hO.out.at hb1)
      have d1 : y1.cell? ⟨b1, o1 + k * 2 + 1, none⟩ = _ := (hb1.cell (p := ⟨b1, o1 + k * 2 + 1, none⟩) l1).trans c1
      have l2 : b1 < y1.heap.size := Nat.lt_of_lt_of_le l1 hb1.size
      have HB1 := Lib.hid (HB.out.at hb1)
      have hsl := setL_le (c := cmpP) A
      clear hb1 c0 c1 hP
      go_wp2_with fail
      refine (PutR_spec (HO1.out.at Seq.way) (setL_srt cmpP_ok A) (by omega) p1 p2).mono ?_
      rintro e y2 ⟨v2, rfl, hb2, hs2⟩
      rw [← setL_snoc] at hs2
      replace hb2 := below_step hb2 (Seq.way : Below y1.heap.size y1 _)
      have hzy := Nat.le_trans hzr (Nat.le_trans Hb1.out.size (Nat.le_refl _))
      have HS2 := Lib.hid (hs2.mono (T := fun b => w.heap.size ≤ b) (fun b h _ => Nat.le_trans hzy (by simpa using h)) fun _ _ _ => rfl)
      have Hb2 := Lib.hid (below_step (below_step hb2 Hb1.out) hbr.out)
      have g1 := fun {w' : World} (h : Below y2.heap.size y2 w') => Lib.hid (show w'.cell? ⟨b1, o1 + k * 2 + 1, none⟩ = some (.slice la c.body.length lc) from (h.cell (p := ⟨b1, o1 + k * 2 + 1, none⟩) (Nat.lt_of_lt_of_le l2 hb2.size)).trans ((hb2.cell (p := ⟨b1, o1 + k * 2 + 1, none⟩) l2).trans d1))
      have HB2 := Lib.hid (HB1.out.at hb2)
      have hfB := fun {w' : World} (h : Below y2.heap.size y2 w') => Lib.hid (HB2.out.at h)
      clear hs2 hb2 d1 p1 p2
      go_wp2_with fail
      go_loopw [3, 5] (fun o i wz => ∃ j : Nat, j ≤ c.body.length ∧ i = .int .i64 j ∧ Hid (Seq prdE (fun b => w.heap.size ≤ b) wz o (setL cmpP (A ++ P :: (c.body.take j).map fun b => prT b.t))) ∧ Hid (Below y2.heap.size y2 wz)) (fun _ i _ => c.body.length - (intOf i).toNat)
      case atStart => exact ⟨0, Nat.zero_le _, rfl, HS2, Lib.hid (Below.refl _ _)⟩
      case round =>
        obtain ⟨j, hj, rfl, hO, hbz⟩ := hrel
        obtain ⟨oa, oc, rfl⟩ := hO.out.shape
        have q1 := (g1 hbz.out).out
        have hzz := hbz.out.size
        by_cases hjl : j < c.body.length
        · obtain ⟨_, _, ee, -, -, -, -, x6⟩ := (hfB hbz.out).out
          simp only [Value.slice.injEq, true_and] at ee
          obtain ⟨rfl, rfl⟩ := ee
          obtain ⟨b2, o2, ta, tc, rfl, -, l3, -, e1, hT⟩ := x6.lit hjl
          have HT := Lib.hid hT
          have hjx := Lib.hid (show A ++ P :: (c.body.take (j + 1)).map (fun b => prT b.t) = (A ++ P :: (c.body.take j).map fun b => prT b.t) ++ [prT c.body[j].t] by rw [List.take_succ_eq_append_getElem hjl, List.map_append]; simp only [List.map_cons, List.map_nil, List.append_assoc, List.cons_append])
          have hxp := (hM1.out _ (List.getElem_mem hjl)).pos
          obtain ⟨x, hx⟩ : ∃ x, x = c.body[j].t := ⟨_, rfl⟩
          rw [← hx] at e1 HT hjx hxp
          obtain ⟨Q, hQ⟩ : ∃ Q, Q = A ++ P :: (c.body.take j).map fun b => prT b.t := ⟨_, rfl⟩
          have hQl : Q.length ≤ 9100 := by rw [hQ]; simp; omega
          rw [← hQ] at hO hjx ⊢
          have hjI : (j : Int) < (c.body.length : Int) := by omega
          have hj0 : (0 : Int) ≤ (j : Int) := by omega
          obtain ⟨p1, p2⟩ := prT_ok HT.out hxp
          clear hx x6 hT hQ
          go_wp2_with fail
          refine (PredR_spec (HT.out.at Seq.way) (by omega)).mono ?_
          rintro e z1 ⟨rfl, hb3⟩
          replace hb3 := below_step hb3 (Seq.way : Below wr.heap.size wr _)
          have Hb3 := Lib.hid hb3
          obtain ⟨R, hR⟩ : ∃ R, R = prT x := ⟨_, rfl⟩
          rw [← hR] at hjx p1 p2 ⊢
          unfold prdV
          have HO3 := Lib.hid (hO.out.at hb3)
          have hsl2 := setL_le (c := cmpP) Q
          clear hb3 e1 q1 hR
          go_wp2_with fail
          refine (PutR_spec (HO3.out.at Seq.way) (setL_srt cmpP_ok Q) (by omega) p1 p2).mono ?_
          rintro e z2 ⟨v4, rfl, hb4, hs4⟩
          rw [← setL_snoc] at hs4
          replace hb4 := below_step hb4 (Seq.way : Below z1.heap.size z1 _)
          have hz4 : w.heap.size ≤ z1.heap.size := Nat.le_trans Hb2.out.size (Nat.le_trans hzz Hb3.out.size)
          have HS4 := Lib.hid (hs4.mono (T := fun b => w.heap.size ≤ b) (fun b h _ => Nat.le_trans hz4 (by simpa using h)) fun _ _ _ => rfl)
          have Hb4 := Lib.hid (below_step (below_step hb4 Hb3.out) hbz.out)
          obtain ⟨oa4, oc4, rfl⟩ := HS4.out.shape
          clear hs4 hb4 p1 p2
          go_wp2_with fail
          go_roundw
          case rel => exact ⟨j + 1, hjl, by go_num, Lib.hid (by rw [hjx.out]; exact HS4.out), Hb4⟩
          case measure => simp [intOf]; omega
        · obtain rfl : j = c.body.length := by omega
          rw [List.take_length] at hO ⊢
          rw [← hst.out] at hO ⊢
          have Hfin := Lib.hid (below_step hbz.out Hb2.out)
          clear hjl
          go_wp2_with fail
          go_roundw
          case rel => exact ⟨k + 1, hlt, by go_num, hO, Hfin⟩
          case measure => simp [intOf]; omega
    · obtain rfl : k = l.length := by omega
      rw [List.take_length] at hO ⊢
      clear hlt
      go_wp2_with fail
      go_ret
      exact ⟨_, rfl, hbr.out, hO.out⟩
end
end Go.Proofs.Ytadbdmnngmlnhaa
