/-
  Layer 7, the program: a set of variables in a map; whether all variables of a term are in it.
  Layer 7, the program: whether a clause is safe.
  Layer 7, the program: whether clauses may be so.
-/
import Derived.Test.YtadbdmnngmlnhaaPgF
import Derived.Test.YtadbdmnngmlnhaaPhI
import Derived.Maps.OwnSet
import Derived.Test.YtadbdmnngmlnhaaPgN
namespace Go.Proofs.Ytadbdmnngmlnhaa
section
open Go Go.RowKit

/-- An element of the map: the value itself. -/
def Rv (v : Value) : Option (DataW Value × List MemPlace) := some (.held v, [])
theorem wf_ok {n : Int} (h : IntOK n) : (Lit.int .i64 n).wf = true := by
  obtain ⟨h1, h2⟩ := h
  have e1 : IntKind.i64.min = -9223372036854775808 := by decide
  have e2 : IntKind.i64.max = 9223372036854775807 := by decide
  simp only [Lit.wf, e1, e2, Bool.and_eq_true, decide_eq_true_eq]
  exact ⟨h1, h2⟩
theorem zero_bool (w : World) : (zeroValue 4).run Try.prog w = .ok (.bool false) w := by kernel_rfl
theorem ownsMap_at {w w' : World} {P : Program} {k : TypeId} {b n : Nat} {D : DataW Value} (h : w.ownsMap P k Rv b n D) (hw : w'.heap[b]? = w.heap[b]?) : w'.ownsMap P k Rv b n D := by
  obtain ⟨es, clock, hb, r⟩ := h
  exact ⟨es, clock, hw.trans hb, r⟩
/-- A map as a set of numbers. -/
def SetD (D : DataW Value) (s : List Int) : Prop := Maps.IsMap D ∧ ∀ n, D.atKey (.int .i64 n) (.held (.bool false)) = .held (.bool (decide (n ∈ s)))
theorem setD_nil : SetD (.map []) [] := ⟨Maps.isMap_empty, fun n => by simp; rfl⟩
theorem setD_put {D : DataW Value} {s : List Int} (h : SetD D s) (v : Int) : SetD (D.put (.int .i64 v) (.held (.bool true))) (s ++ [v]) := by
  refine ⟨h.1.put _ _, fun n => ?_⟩
  by_cases e : v = n
  · subst e
    rw [Maps.atKey_put_same h.1 (by simp [WideAt.IsKeyLit])]
    simp
  · have e' : (Lit.int .i64 n) ≠ Lit.int .i64 v := fun h => by injection h with _ h; exact e h.symm
    rw [Maps.atKey_put_other e', h.2 n]
    congr 3
    simp [List.mem_append]
    exact fun h => absurd h.symm e
/-- The box that holds the map. -/
def MapB (w : World) (bb B : Nat) (s : List Int) : Prop := w.cell? ⟨bb, 0, none⟩ = some (.map (some B)) ∧ bb < w.heap.size ∧ B < w.heap.size ∧ ∃ n D, w.ownsMap Try.prog 3 Rv B n D ∧ SetD D s
theorem MapB.at {w w' : World} {bb B : Nat} {s : List Int} (h : MapB w bb B s) (hb : Below w.heap.size w w') : MapB w' bb B s := by
  obtain ⟨h1, h2, h3, n, D, h4, h5⟩ := h
  exact ⟨(hb.cell (p := ⟨bb, 0, none⟩) h2).trans h1, Nat.lt_of_lt_of_le h2 hb.size, Nat.lt_of_lt_of_le h3 hb.size, n, D, ownsMap_at h4 (hb.block B h3), h5⟩
set_option maxRecDepth 100000 in
theorem MapB.look {w : World} {bb B : Nat} {s : List Int} (h : MapB w bb B s) {v : Int} (hv : IntOK v) : (Instr.lookup 62 (.map (some B)) (.int .i64 v) false).run Try.prog w = .ok (.bool (decide (v ∈ s))) w := by
  obtain ⟨-, -, -, n, D, h4, h5⟩ := h
  obtain ⟨u, ps, h6, h7⟩ := h4.lookup (Maps.int_keyed Try.underlying3) Try.underlying62 (zero_bool w) (zd := .held (.bool false)) (zp := []) rfl (Maps.keyOf_int_mk Try.underlying3 (wf_ok hv))
  rw [h5.2 v] at h7
  unfold Rv at h7
  simp only [Option.some.injEq, Prod.mk.injEq] at h7
  obtain ⟨h8, -⟩ := h7
  have h8 := DataW.held.inj h8
  rw [← h8]; exact h6

set_option maxRecDepth 100000 in
set_option maxHeartbeats 1600000 in
theorem isFree_spec {w : World} {bb B : Nat} {s : List Int} {v : Int} (hm : MapB w bb B s) (hv : IntOK v) :
    Calls Try.prog 42 #[.int .i64 v, .pointer (some ⟨bb, 0, none⟩)] w (PureV (.bool (!decide (v ∈ s))) w) := by
  have hl := hm.look hv
  have hc := hm.1
  clear hm
  go_enter Try.func42, Try.ntmps42
  go_wp2_with fail
  go_ret
  exact ⟨rfl, rfl⟩

/-- Is there a number that is not in the set? -/
def freeB (s : List Int) (l : List Int) : Bool := l.any fun v => !decide (v ∈ s)
theorem freeB_within (s l : List Int) : freeB s l = !withinI l s := by
  unfold freeB withinI
  induction l with
  | nil => rfl
  | cons a l ih => simp only [List.any_cons, List.all_cons, ih, Bool.not_and]
theorem freeB_yes {s l : List Int} {k : Nat} (hk : k < l.length) (h : decide (l[k] ∈ s) = false) : freeB s l = true := List.any_eq_true.2 ⟨l[k], List.getElem_mem hk, by rw [h]; rfl⟩
theorem freeB_no {s l : List Int} (h : ∀ x ∈ l, decide (x ∈ s) = true) : freeB s l = false := List.any_eq_false.2 fun x hx => by rw [h x hx]; simp
set_option maxHeartbeats 1600000 in
set_option maxRecDepth 100000 in
theorem indexF_spec {S : Nat → Prop} {w : World} {v : Value} {l s : List Int} {bb B : Nat} (hl : Seq intE S w v l) (hm : MapB w bb B s) :
    Calls Try.prog 65 #[v, .func (.func 42) #[] #[.pointer (some ⟨bb, 0, none⟩)]] w fun e w' => (∃ i : Int, e = .returned (.int .i64 i) ∧ IntOK i ∧ (freeB s l = true ↔ 0 ≤ i)) ∧ w = w' := by
  have Hm := Lib.hid hm
  obtain ⟨ao, cap, rfl, h1, h2, h3, h4, h5⟩ := hl
  clear hm
  go_enter Try.func65, Try.ntmps65
  go_wp2_with fail
  go_loopw [8] (fun i wr => ∃ k : Nat, k ≤ l.length ∧ i = .int .i64 k ∧ Hid (∀ x ∈ l.take k, decide (x ∈ s) = true) ∧ w = wr) (fun i _ => l.length - (intOf i).toNat)
  case atStart => exact ⟨0, Nat.zero_le _, rfl, Lib.hid (by simp), rfl⟩
  case round =>
    obtain ⟨k, hk, rfl, hno, rfl⟩ := hrel
    by_cases hlt : k < l.length
    · obtain ⟨b1, o1, rfl, -, -, c0, ok0⟩ := h5.int hlt
      have Hok := Lib.hid ok0
      have hxs := Lib.hid (show decide (l[k] ∈ s) = true → ∀ y ∈ l.take (k + 1), decide (y ∈ s) = true from fun hp y hy => by
        rw [List.take_succ_eq_append_getElem hlt] at hy
        rcases List.mem_append.1 hy with h | h
        · exact hno.out y h
        · rw [List.mem_singleton] at h; rw [h]; exact hp)
      have hxa := Lib.hid (show decide (l[k] ∈ s) = false → freeB s l = true from fun hp => freeB_yes hlt hp)
      obtain ⟨x, hxe⟩ : ∃ x, x = l[k] := ⟨_, rfl⟩
      rw [← hxe] at c0 Hok hxs hxa
      clear hxe h5 hno ok0
      have hkl : (k : Int) < (l.length : Int) := by omega
      have hk0 : (0 : Int) ≤ (k : Int) := by omega
      go_wp2_with fail
      refine (isFree_spec Hm.out Hok.out).mono ?_
      rintro e w' ⟨rfl, rfl⟩
      obtain ⟨p, hp⟩ : ∃ p, p = decide (x ∈ s) := ⟨_, rfl⟩
      rw [← hp] at hxs hxa ⊢
      clear hp
      cases p
      · have hst := Lib.hid (hxa.out rfl)
        go_wp2_with fail
        go_ret
        exact ⟨⟨_, rfl, ⟨by omega, by omega⟩, ⟨fun _ => by omega, fun _ => hst.out⟩⟩, rfl⟩
      · have hst := Lib.hid (hxs.out rfl)
        go_wp2_with fail
        go_roundw
        case rel => exact ⟨k + 1, hlt, by go_num, hst, by first | rfl | trivial⟩
        case measure => simp [intOf]; omega
    · have hst := Lib.hid (show freeB s l = false from freeB_no (by have := hno.out; rw [List.take_of_length_le (by omega)] at this; exact this))
      have hkl : ¬ (k : Int) < (l.length : Int) := by omega
      clear hno hlt
      go_wp2_with fail
      go_ret
      exact ⟨⟨_, rfl, ⟨by omega, by omega⟩, ⟨fun h => by rw [hst.out] at h; simp at h, fun h => by omega⟩⟩, rfl⟩
set_option maxRecDepth 100000 in
theorem containsF_spec {S : Nat → Prop} {w : World} {v : Value} {l s : List Int} {bb B : Nat} (hl : Seq intE S w v l) (hm : MapB w bb B s) :
    Calls Try.prog 40 #[v, .func (.func 42) #[] #[.pointer (some ⟨bb, 0, none⟩)]] w (PureV (.bool (freeB s l)) w) := by
  have HL := Lib.hid hl
  obtain ⟨ao, cap, rfl⟩ := hl.shape
  clear hl
  go_enter Try.func40, Try.ntmps40
  go_wp2_with fail
  refine (indexF_spec HL.out hm).mono ?_
  rintro e w' ⟨⟨i, rfl, hi, hif⟩, rfl⟩
  have Hif := Lib.hid (show decide (0 ≤ i) = freeB s l by
    cases h : freeB s l with
    | true => exact decide_eq_true (hif.1 h)
    | false => exact decide_eq_false fun h2 => by rw [hif.2 h2] at h; simp at h)
  clear hif hm
  go_wp2_with fail
  go_ret
  exact ⟨ret_bool (by rw [← Hif.out]; try rfl), rfl⟩
set_option maxHeartbeats 1600000 in
set_option maxRecDepth 100000 in
theorem free_spec {S : Nat → Prop} {w : World} {v : Value} {t : List Cell} {s : List Int} {bb B : Nat} (ht : Seq cellE S w v t) (hr : t.length ≤ 1000000000) (hm : MapB w bb B s) :
    Calls Try.prog 39 #[v, .pointer (some ⟨bb, 0, none⟩)] w (RetV (.bool (!withinI (varsL t) s)) w) := by
  have HT := Lib.hid ht
  have Hr := Lib.hid hr
  have Hm := Lib.hid hm
  obtain ⟨ta, tc, rfl⟩ := ht.shape
  clear ht hr hm
  go_enter Try.func39, Try.ntmps39
  go_wp2_with fail
  refine (VarsP_spec HT.out Hr.out).mono ?_
  rintro e w1 ⟨u, rfl, hb1, hs1⟩
  have HS := Lib.hid hs1
  have HB := Lib.hid hb1
  obtain ⟨ua, uc, rfl⟩ := hs1.shape
  clear hs1 hb1
  go_wp2_with fail
  refine (containsF_spec (HS.out.at Seq.way) (Hm.out.at (below_step Seq.way HB.out))).mono ?_
  rintro e w2 ⟨rfl, rfl⟩
  rw [freeB_within]
  go_wp2_with fail
  go_ret
  exact ⟨rfl, below_step Seq.way HB.out⟩
end
section
open Go Go.RowKit

/-- The box that holds the map, no more than so many put in. -/
def MapC (w : World) (bb B : Nat) (s : List Int) (N : Nat) : Prop := w.cell? ⟨bb, 0, none⟩ = some (.map (some B)) ∧ bb < w.heap.size ∧ B < w.heap.size ∧ ∃ n D, n ≤ N ∧ w.ownsMap Try.prog 3 Rv B n D ∧ SetD D s
theorem MapC.b {w : World} {bb B N : Nat} {s : List Int} (h : MapC w bb B s N) : MapB w bb B s := by
  obtain ⟨h1, h2, h3, n, D, -, h4, h5⟩ := h
  exact ⟨h1, h2, h3, n, D, h4, h5⟩
theorem MapC.at {w w' : World} {bb B N : Nat} {s : List Int} (h : MapC w bb B s N) (hb : Below w.heap.size w w') : MapC w' bb B s N := by
  obtain ⟨h1, h2, h3, n, D, h0, h4, h5⟩ := h
  exact ⟨(hb.cell (p := ⟨bb, 0, none⟩) h2).trans h1, Nat.lt_of_lt_of_le h2 hb.size, Nat.lt_of_lt_of_le h3 hb.size, n, D, h0, ownsMap_at h4 (hb.block B h3), h5⟩
theorem MapC.le {w : World} {bb B N M : Nat} {s : List Int} (h : MapC w bb B s N) (hN : N ≤ M) : MapC w bb B s M := by
  obtain ⟨h1, h2, h3, n, D, h0, h4, h5⟩ := h
  exact ⟨h1, h2, h3, n, D, by omega, h4, h5⟩

set_option maxHeartbeats 6400000 in
set_option maxRecDepth 100000 in
theorem SafeP_spec {S : Nat → Prop} {w : World} {v : Value} {c : Cls} (hc : ClsV S w v c) :
    Calls Try.prog 13 #[v] w (RetV (.bool (safeC c)) w) := by
  obtain ⟨ha, hcp, la, lc, rfl, h1, h2⟩ := hc
  obtain ⟨W, hW⟩ : ∃ W, W = w.alloc (.cells #[.slice ha c.head.length hcp, .slice la c.body.length lc] 31) := ⟨_, rfl⟩
  have HBW := Lib.hid (show Below w.heap.size w W by rw [hW]; exact Seq.way)
  have HR := Lib.hid (show RowA 31 W w.heap.size [.slice ha c.head.length hcp, .slice la c.body.length lc] by rw [hW]; exact Row.new w [_, _] _ rfl)
  have HH := Lib.hid h1
  have HL := Lib.hid h2.bnd
  have HW := Lib.hid hW
  obtain ⟨bc, hbc⟩ : ∃ b, b = w.heap.size := ⟨_, rfl⟩
  have Hbc := Lib.hid hbc
  have r0 : W.cell? ⟨bc, 0, none⟩ = some (.slice ha c.head.length hcp) := by rw [hbc]; exact HR.out.row.cell (j := 0) (by simp)
  have r1 : W.cell? ⟨bc, 1, none⟩ = some (.slice la c.body.length lc) := by rw [hbc]; exact HR.out.row.cell (j := 1) (by simp)
  have hbcW := Lib.hid (show bc < W.heap.size by rw [hbc]; exact HR.out.row.lt)
  have hmm := @run_makeMap Try.prog
  clear hW h1 h2 hbc
  go_enter Try.func13, Try.ntmps13
  go_upto_region 1 with fail
  rw [← HW.out, ← Hbc.out]
  go_wp2_with fail
  refine (AtomP_spec (HH.out.at (below_step Seq.way HBW.out))).mono ?_
  rintro e w1 ⟨rfl, hb1⟩
  have HB1 := Lib.hid (below_step hb1 (Seq.way : Below W.heap.size W _))
  replace r0 : w1.cell? ⟨bc, 0, none⟩ = _ := (HB1.out.cell (p := ⟨bc, 0, none⟩) hbcW.out).trans r0
  replace r1 : w1.cell? ⟨bc, 1, none⟩ = _ := (HB1.out.cell (p := ⟨bc, 1, none⟩) hbcW.out).trans r1
  have hbc1 := Lib.hid (Nat.lt_of_lt_of_le hbcW.out HB1.out.size)
  clear hb1
  cases hah : atomB c.head with
  | false =>
    have hs := Lib.hid (show safeC c = false by unfold safeC mayC; rw [hah]; simp)
    clear hah
    go_wp2_with fail
    go_ret
    exact ⟨ret_bool hs.out.symm, below_step HB1.out HBW.out⟩
  | true =>
    have Hah := Lib.hid hah
    by_cases hle : c.body.length ≤ 8
    · have hle2 : ((8 : Int) < (c.body.length : Int)) = False := by simp; omega
      have hle3 : ((c.body.length : Int) > 8) = False := by simp; omega
      clear hah
      go_upto_region 5 with fail
      obtain ⟨W2, hW2⟩ : ∃ W2, W2 = (w1.alloc (.map #[] 0)).alloc (.cells #[.map (some w1.heap.size)] 62) := ⟨_, rfl⟩
      have hm0 : MapC W2 (w1.heap.size + 1) w1.heap.size [] 0 := by
        have h3 := Row.new (w1.alloc (.map #[] 0)) [.map (some w1.heap.size)] 62 (B := w1.heap.size + 1) (by simp)
        rw [hW2]
        exact ⟨h3.cell (j := 0) (by simp), h3.lt, by simp; omega, 0, _, Nat.le_refl _, (World.ownsMap_made w1 Try.prog 3 Rv).alloc _, setD_nil⟩
      have HB2 := Lib.hid (show Below W.heap.size W W2 by rw [hW2]; exact below_step Seq.way HB1.out)
      have hz12 := Lib.hid (show w1.heap.size ≤ W2.heap.size by rw [hW2]; simp; omega)
      rw [← hW2]
      obtain ⟨bb, hbb⟩ : ∃ b, b = w1.heap.size + 1 := ⟨_, rfl⟩
      obtain ⟨Bm, hBm⟩ : ∃ b, b = w1.heap.size := ⟨_, rfl⟩
      simp only [← hbb] at hm0 ⊢
      simp only [← hBm] at hm0 ⊢
      have hbcm : bc < Bm := by have := hbc1.out; omega
      have hbbm : Bm < bb := by omega
      have HM0 := Lib.hid hm0
      have HBm := Lib.hid (show w.heap.size ≤ Bm ∧ W.heap.size ≤ Bm from ⟨by have := HBW.out.size; have := HB1.out.size; omega, by have := HB1.out.size; omega⟩)
      have hfc := fun {W' : World} (h : W2.grownBy W' (some Bm)) => Lib.hid (show W'.cell? ⟨bc, 0, none⟩ = some (.slice ha c.head.length hcp) ∧ W'.cell? ⟨bc, 1, none⟩ = some (.slice la c.body.length lc) from
        ⟨(grown_cell h (by have := hz12.out; omega) (fun e => by simp only [Option.some.injEq] at e; omega)).trans ((HB2.out.cell (p := ⟨bc, 0, none⟩) hbcW.out).trans (by rw [Hbc.out]; exact HR.out.row.cell (j := 0) (by simp))),
         (grown_cell h (by have := hz12.out; omega) (fun e => by simp only [Option.some.injEq] at e; omega)).trans ((HB2.out.cell (p := ⟨bc, 1, none⟩) hbcW.out).trans (by rw [Hbc.out]; exact HR.out.row.cell (j := 1) (by simp)))⟩)
      have hfW := fun {W' : World} (h : W2.grownBy W' (some Bm)) => Lib.hid (show Below w.heap.size w W' from (below_step HB2.out HBW.out).trans (grown_below h HBm.out.1 (by have := HBm.out.1; have := hz12.out; omega)))
      obtain ⟨s0, s1⟩ := (hfc (World.grownBy.refl W2 _)).out
      clear hW2 hm0 hbb hBm r0 r1 hmm
      go_wp2_with fail
      clear s0 s1
      go_loopw [24] (fun i wr => ∃ (k : Nat) (bound : List Int), k ≤ c.body.length ∧ i = .int .i64 k ∧ Hid (safeB [] c.body = safeB bound (c.body.drop k)) ∧ Hid (AtomsTo c.body k) ∧ Hid (MapC wr bb Bm bound (k * 140737488355328)) ∧ Hid (W2.grownBy wr (some Bm))) (fun i _ => c.body.length - (intOf i).toNat)
      case atStart => exact ⟨0, [], Nat.zero_le _, rfl, Lib.hid rfl, Lib.hid (fun j b h => by omega), Lib.hid (HM0.out.le (by omega)), Lib.hid (World.grownBy.refl _ _)⟩
      case round =>
        obtain ⟨k, bound, hk, rfl, hS, hA, hM, hgr⟩ := hrel
        have hzr := hgr.out.size
        obtain ⟨s0, s1⟩ := (hfc hgr.out).out
        by_cases hlt : k < c.body.length
        · obtain ⟨_, _, ee, -, -, -, -, x5⟩ := HL.out
          simp only [Value.slice.injEq, true_and] at ee
          obtain ⟨rfl, rfl⟩ := ee
          obtain ⟨b1, o1, p1, n1, rfl, -, l1, c0, c1, hX⟩ := x5.lit hlt
          replace c0 : wr.cell? ⟨b1, o1 + k * 2, none⟩ = _ := ((hfW hgr.out).out.cell (p := ⟨b1, o1 + k * 2, none⟩) l1).trans c0
          replace c1 : wr.cell? ⟨b1, o1 + k * 2 + 1, none⟩ = _ := ((hfW hgr.out).out.cell (p := ⟨b1, o1 + k * 2 + 1, none⟩) l1).trans c1
          have HX := Lib.hid (hX.at (hfW hgr.out).out)
          have hst := Lib.hid (safeB_step hlt bound)
          have hAy := Lib.hid (fun ha => atomsTo_succ hA.out hlt ha)
          have hAn := Lib.hid (fun ha => mayC_not (c := c) hlt ha)
          obtain ⟨x, hx⟩ : ∃ x, x = c.body[k].t := ⟨_, rfl⟩
          obtain ⟨ng, hng⟩ : ∃ x, x = c.body[k].neg := ⟨_, rfl⟩
          rw [← hx] at c1 HX hst hAy hAn
          rw [← hng] at c0 hst
          have hkl : (k : Int) < (c.body.length : Int) := by omega
          have hk0 : (0 : Int) ≤ (k : Int) := by omega
          clear hx hng x5 hX
          go_wp2_with fail
          refine (AtomP_spec (HX.out.at Seq.way)).mono ?_
          rintro e y1 ⟨rfl, hb1⟩
          have hr1 := (Row.new wr [.bool ng, .slice p1 x.length n1] 47 rfl).below hb1 (by simp)
          obtain ⟨bl, hbl⟩ : ∃ b, b = wr.heap.size := ⟨_, rfl⟩
          simp only [← hbl] at hr1 ⊢
          have d0 : y1.cell? ⟨bl, 0, none⟩ = some (.bool ng) := hr1.cell (j := 0) (by simp)
          have d1 : y1.cell? ⟨bl, 1, none⟩ = some (.slice p1 x.length n1) := hr1.cell (j := 1) (by simp)
          have hbl1 : bl < y1.heap.size := hr1.lt
          have Hb1 := Lib.hid (below_step hb1 (Seq.way : Below wr.heap.size wr _))
          clear hb1 hr1 c0 c1 s0 s1 hbl
          cases hax : atomB x with
          | false =>
            have hs := Lib.hid (show safeC c = false by unfold safeC; rw [hAn.out hax]; rfl)
            clear hax
            go_wp2_with fail
            go_ret
            exact ⟨ret_bool hs.out.symm, (hfW (grown_of hgr.out (below_step Seq.way Hb1.out))).out⟩
          | true =>
            have hA' := Lib.hid (hAy.out hax)
            have hxl := Lib.hid (show x.length ≤ 1000000000 by have := (atomB_right hax).1; omega)
            have HXy := Lib.hid (HX.out.at Hb1.out)
            have HMy := Lib.hid (hM.out.at Hb1.out)
            have Hgy := Lib.hid (grown_of hgr.out Hb1.out)
            clear hax
            cases ng with
            | false =>
              have hst' := Lib.hid (show safeB bound (c.body.drop k) = safeB (bound ++ varsL x) (c.body.drop (k + 1)) by rw [hst.out]; rfl)
              clear hst hAy hAn
              go_wp2_with fail
              refine (VarsP_spec (HXy.out.at Seq.way) hxl.out).mono ?_
              rintro e y3 ⟨v3, rfl, hb3, hs3⟩
              have hb3' := below_step hb3 (Seq.way : Below y1.heap.size y1 _)
              obtain ⟨V, hV⟩ : ∃ V, V = varsL x := ⟨_, rfl⟩
              rw [← hV] at hs3 hst'
              have hVl : V.length ≤ 140737488355328 := by obtain ⟨_, _, _, _, _, h, _⟩ := hs3; exact h
              obtain ⟨va, vc, rfl⟩ := hs3.shape
              have hzY := Lib.hid (show Bm < y1.heap.size by have := Hgy.out.size; have := hz12.out; have := HM0.out.2.2.1; omega)
              have HVs := Lib.hid (show Seq intE (fun b => y1.heap.size ≤ b) y3 (.slice va V.length vc) V from hs3.mono (fun b h _ => by simpa using h) fun _ _ _ => rfl)
              have HM3 := Lib.hid (HMy.out.at hb3')
              have Hg3 := Lib.hid (grown_of Hgy.out hb3')
              clear hs3 hb3 hb3' hV d1 hbl1 HXy HMy
              go_wp2_with fail
              go_loopw [46] (fun i wz => ∃ j : Nat, j ≤ V.length ∧ i = .int .i64 j ∧ Hid (MapC wz bb Bm (bound ++ V.take j) (k * 140737488355328 + j)) ∧ Hid (y3.grownBy wz (some Bm))) (fun i _ => V.length - (intOf i).toNat)
              case atStart => exact ⟨0, Nat.zero_le _, rfl, Lib.hid (by rw [List.take_zero, List.append_nil]; exact HM3.out.le (by omega)), Lib.hid (World.grownBy.refl _ _)⟩
              case round =>
                obtain ⟨j, hj, rfl, hMz, hgz⟩ := hrel
                by_cases hjl : j < V.length
                · obtain ⟨_, _, ee, -, -, -, -, x6⟩ := grown_seq HVs.out hgz.out (fun b hb e => by simp only [Option.some.injEq] at e; have := hzY.out; omega)
                  simp only [Value.slice.injEq, true_and] at ee
                  obtain ⟨rfl, rfl⟩ := ee
                  obtain ⟨b2, o2, rfl, -, l2, e0, ok0⟩ := x6.int hjl
                  have Hok := Lib.hid ok0
                  have hjx := Lib.hid (show bound ++ V.take (j + 1) = (bound ++ V.take j) ++ [V[j]] by rw [List.take_succ_eq_append_getElem hjl, List.append_assoc])
                  obtain ⟨t, ht⟩ : ∃ t, t = V[j] := ⟨_, rfl⟩
                  rw [← ht] at e0 Hok hjx
                  obtain ⟨m1, m2, m3, nn, D, m0, m4, m5⟩ := hMz.out
                  have Hm2 := Lib.hid m2
                  have Hm0 := Lib.hid m0
                  have Hm4 := Lib.hid m4
                  have Hm5 := Lib.hid (setD_put m5 t)
                  have hjI : (j : Int) < (V.length : Int) := by omega
                  have hj0 : (0 : Int) ≤ (j : Int) := by omega
                  clear ht x6 ok0 m0 m2 m4 m5
                  go_wp2_with (at_mapUpdate; refine wpList_mapUpdate_own _ rfl _ _ _ 62 rfl 3 4 (Maps.int_keyed Try.underlying3) Try.underlying62 Rv Bm nn D rfl Hm4.out (by have := Hm0.out; unfold maxLen; omega) _ _ _ rfl rfl (Maps.keyOf_int_mk Try.underlying3 (wf_ok Hok.out)) _ [] rfl ?_)
                  intro w5 hown5 hg5
                  have H5 := Lib.hid hown5
                  have G5 := Lib.hid hg5
                  have mc : w5.cell? ⟨bb, 0, none⟩ = _ := (grown_cell hg5 Hm2.out (fun e => by simp only [Option.some.injEq] at e; omega)).trans m1
                  have Mc := Lib.hid mc
                  clear hown5 hg5 e0 m1 mc
                  go_wp2_with fail
                  go_roundw
                  case rel => exact ⟨j + 1, hjl, by go_num, Lib.hid (by rw [hjx.out]; exact ⟨Mc.out, Nat.lt_of_lt_of_le Hm2.out G5.out.size, Nat.lt_of_lt_of_le m3 G5.out.size, nn + 1, _, by have := Hm0.out; omega, H5.out, Hm5.out⟩), Lib.hid (grown_trans hgz.out G5.out)⟩
                  case measure => simp [intOf]; omega
                · have hje := Lib.hid (show bound ++ V.take j = bound ++ V by rw [List.take_of_length_le (by omega)])
                  have hjI : ¬ (j : Int) < (V.length : Int) := by omega
                  clear hjl
                  go_wp2_with fail
                  go_roundw
                  case rel => exact ⟨k + 1, bound ++ V, hlt, by go_num, Lib.hid (hS.out.trans hst'.out), hA', Lib.hid (by rw [← hje.out]; exact hMz.out.le (by omega)), Lib.hid (grown_trans Hg3.out hgz.out)⟩
                  case measure => simp [intOf]; omega
            | true =>
              go_wp2_with fail
              refine (free_spec (HXy.out.at Seq.way) hxl.out (HMy.out.at Seq.way).b).mono ?_
              rintro e y2 ⟨rfl, hb2⟩
              replace hb2 := below_step hb2 (Seq.way : Below y1.heap.size y1 _)
              replace d1 : y2.cell? ⟨bl, 1, none⟩ = _ := (hb2.cell (p := ⟨bl, 1, none⟩) hbl1).trans d1
              replace hbl1 : bl < y2.heap.size := Nat.lt_of_lt_of_le hbl1 hb2.size
              replace HXy := Lib.hid (HXy.out.at hb2)
              replace HMy := Lib.hid (HMy.out.at hb2)
              replace Hgy := Lib.hid (grown_of Hgy.out hb2)
              clear hb2 d0
              cases hwi : withinI (varsL x) bound with
              | false =>
                have hm := Lib.hid (show safeC c = false by
                  have h1 := hS.out
                  rw [hst.out, hwi] at h1
                  unfold safeC
                  rw [h1]
                  simp)
                clear hwi hst
                go_wp2_with fail
                go_ret
                exact ⟨ret_bool hm.out.symm, (hfW (grown_of Hgy.out Seq.way)).out⟩
              | true =>
                have hst' := Lib.hid (show safeB bound (c.body.drop k) = safeB (bound ++ varsL x) (c.body.drop (k + 1)) by rw [hst.out, hwi]; rfl)
                clear hst hAy hAn hwi
                go_wp2_with fail
                refine (VarsP_spec (HXy.out.at Seq.way) hxl.out).mono ?_
                rintro e y3 ⟨v3, rfl, hb3, hs3⟩
                have hb3' := below_step hb3 (Seq.way : Below y2.heap.size y2 _)
                obtain ⟨V, hV⟩ : ∃ V, V = varsL x := ⟨_, rfl⟩
                rw [← hV] at hs3 hst'
                have hVl : V.length ≤ 140737488355328 := by obtain ⟨_, _, _, _, _, h, _⟩ := hs3; exact h
                obtain ⟨va, vc, rfl⟩ := hs3.shape
                have hzY := Lib.hid (show Bm < y2.heap.size by have := Hgy.out.size; have := hz12.out; have := HM0.out.2.2.1; omega)
                have HVs := Lib.hid (show Seq intE (fun b => y2.heap.size ≤ b) y3 (.slice va V.length vc) V from hs3.mono (fun b h _ => by simpa using h) fun _ _ _ => rfl)
                have HM3 := Lib.hid (HMy.out.at hb3')
                have Hg3 := Lib.hid (grown_of Hgy.out hb3')
                clear hs3 hb3 hb3' hV d1 hbl1 HXy HMy
                go_wp2_with fail
                go_loopw [46] (fun i wz => ∃ j : Nat, j ≤ V.length ∧ i = .int .i64 j ∧ Hid (MapC wz bb Bm (bound ++ V.take j) (k * 140737488355328 + j)) ∧ Hid (y3.grownBy wz (some Bm))) (fun i _ => V.length - (intOf i).toNat)
                case atStart => exact ⟨0, Nat.zero_le _, rfl, Lib.hid (by rw [List.take_zero, List.append_nil]; exact HM3.out.le (by omega)), Lib.hid (World.grownBy.refl _ _)⟩
                case round =>
                  obtain ⟨j, hj, rfl, hMz, hgz⟩ := hrel
                  by_cases hjl : j < V.length
                  · obtain ⟨_, _, ee, -, -, -, -, x6⟩ := grown_seq HVs.out hgz.out (fun b hb e => by simp only [Option.some.injEq] at e; have := hzY.out; omega)
                    simp only [Value.slice.injEq, true_and] at ee
                    obtain ⟨rfl, rfl⟩ := ee
                    obtain ⟨b2, o2, rfl, -, l2, e0, ok0⟩ := x6.int hjl
                    have Hok := Lib.hid ok0
                    have hjx := Lib.hid (show bound ++ V.take (j + 1) = (bound ++ V.take j) ++ [V[j]] by rw [List.take_succ_eq_append_getElem hjl, List.append_assoc])
                    obtain ⟨t, ht⟩ : ∃ t, t = V[j] := ⟨_, rfl⟩
                    rw [← ht] at e0 Hok hjx
                    obtain ⟨m1, m2, m3, nn, D, m0, m4, m5⟩ := hMz.out
                    have Hm2 := Lib.hid m2
                    have Hm0 := Lib.hid m0
                    have Hm4 := Lib.hid m4
                    have Hm5 := Lib.hid (setD_put m5 t)
                    have hjI : (j : Int) < (V.length : Int) := by omega
                    have hj0 : (0 : Int) ≤ (j : Int) := by omega
                    clear ht x6 ok0 m0 m2 m4 m5
                    go_wp2_with (at_mapUpdate; refine wpList_mapUpdate_own _ rfl _ _ _ 62 rfl 3 4 (Maps.int_keyed Try.underlying3) Try.underlying62 Rv Bm nn D rfl Hm4.out (by have := Hm0.out; unfold maxLen; omega) _ _ _ rfl rfl (Maps.keyOf_int_mk Try.underlying3 (wf_ok Hok.out)) _ [] rfl ?_)
                    intro w5 hown5 hg5
                    have H5 := Lib.hid hown5
                    have G5 := Lib.hid hg5
                    have mc : w5.cell? ⟨bb, 0, none⟩ = _ := (grown_cell hg5 Hm2.out (fun e => by simp only [Option.some.injEq] at e; omega)).trans m1
                    have Mc := Lib.hid mc
                    clear hown5 hg5 e0 m1 mc
                    go_wp2_with fail
                    go_roundw
                    case rel => exact ⟨j + 1, hjl, by go_num, Lib.hid (by rw [hjx.out]; exact ⟨Mc.out, Nat.lt_of_lt_of_le Hm2.out G5.out.size, Nat.lt_of_lt_of_le m3 G5.out.size, nn + 1, _, by have := Hm0.out; omega, H5.out, Hm5.out⟩), Lib.hid (grown_trans hgz.out G5.out)⟩
                    case measure => simp [intOf]; omega
                  · have hje := Lib.hid (show bound ++ V.take j = bound ++ V by rw [List.take_of_length_le (by omega)])
                    have hjI : ¬ (j : Int) < (V.length : Int) := by omega
                    clear hjl
                    go_wp2_with fail
                    go_roundw
                    case rel => exact ⟨k + 1, bound ++ V, hlt, by go_num, Lib.hid (hS.out.trans hst'.out), hA', Lib.hid (by rw [← hje.out]; exact hMz.out.le (by omega)), Lib.hid (grown_trans Hg3.out hgz.out)⟩
                    case measure => simp [intOf]; omega
        · have hke := Lib.hid (show k = c.body.length by omega)
          have hkl : ¬ (k : Int) < (c.body.length : Int) := by omega
          have hfin := Lib.hid (show safeC c = withinI (varsL c.head) bound by
            have h1 := hS.out
            rw [hke.out, List.drop_length] at h1
            have h2 := mayC_end (c := c) (by rw [← hke.out]; exact hA.out)
            rw [Hah.out, decide_eq_true hle] at h2
            unfold safeC
            rw [h2, h1]
            rfl)
          have hhl := Lib.hid (show c.head.length ≤ 1000000000 by have := (atomB_right Hah.out).1; omega)
          clear hlt
          go_wp2_with fail
          refine (free_spec (HH.out.at (below_step Seq.way (hfW hgr.out).out)) hhl.out (hM.out.at Seq.way).b).mono ?_
          rintro e y9 ⟨rfl, hb9⟩
          have HB9 := Lib.hid (below_step hb9 (Seq.way : Below wr.heap.size wr _))
          clear hb9
          go_wp2_with fail
          go_ret
          exact ⟨ret_bool (by rw [hfin.out]; try simp), (hfW (grown_of hgr.out (below_step Seq.way HB9.out))).out⟩
    · have hs := Lib.hid (show safeC c = false by unfold safeC mayC; rw [decide_eq_false hle]; simp)
      have hle2 : (8 : Int) < (c.body.length : Int) := by omega
      clear hah hle
      go_wp2_with fail
      go_ret
      exact ⟨ret_bool hs.out.symm, below_step (below_step Seq.way HB1.out) HBW.out⟩
end
section
open Go Go.RowKit

set_option maxRecDepth 100000 in
theorem oddC_spec {S : Nat → Prop} {w : World} {v : Value} {c : Cls} (hc : ClsV S w v c) :
    Calls Try.prog 44 #[v] w (RetV (.bool (!safeC c)) w) := by
  obtain ⟨ha, hcp, la, lc, rfl, h1, h2⟩ := hc
  have HV := Lib.hid (show ClsV S (w.alloc (.cells #[.slice ha c.head.length hcp, .slice la c.body.length lc] 31)) (.agg #[.slice ha c.head.length hcp, .slice la c.body.length lc]) c from ⟨ha, hcp, la, lc, rfl, h1.at Seq.way, h2.at Seq.way⟩)
  clear h1 h2
  go_enter Try.func44, Try.ntmps44
  go_wp2_with fail
  refine (SafeP_spec HV.out).mono ?_
  rintro e w1 ⟨rfl, hb1⟩
  have HB1 := Lib.hid (below_step hb1 (Seq.way : Below w.heap.size w _))
  clear hb1
  go_wp2_with fail
  go_ret
  exact ⟨rfl, HB1.out⟩

/-- Is there one that is not safe? -/
def oddCs (l : List Cls) : Bool := l.any fun c => !safeC c
theorem oddCs_yes {l : List Cls} {k : Nat} (hk : k < l.length) (h : safeC l[k] = false) : oddCs l = true := List.any_eq_true.2 ⟨l[k], List.getElem_mem hk, by rw [h]; rfl⟩
theorem oddCs_no {l : List Cls} (h : ∀ x ∈ l, safeC x = true) : oddCs l = false := List.any_eq_false.2 fun x hx => by rw [h x hx]; simp
theorem oddCs_right (l : List Cls) : rightC l = (decide (l.length ≤ 64) && !oddCs l) := by
  have : oddCs l = !l.all safeC := by
    unfold oddCs
    induction l with
    | nil => rfl
    | cons a l ih => simp only [List.any_cons, List.all_cons, ih, Bool.not_and]
  unfold rightC
  rw [this, Bool.not_not, Bool.and_comm]
set_option maxHeartbeats 1600000 in
set_option maxRecDepth 100000 in
theorem indexC_spec {S : Nat → Prop} {w : World} {v : Value} {l : List Cls} (hl : Seq clsE S w v l) :
    Calls Try.prog 67 #[v, .func (.func 44) #[] #[]] w fun e w' => (∃ i : Int, e = .returned (.int .i64 i) ∧ IntOK i ∧ (oddCs l = true ↔ 0 ≤ i)) ∧ Below w.heap.size w w' := by
  have HL := Lib.hid hl
  obtain ⟨ao, cap, rfl, -, -, hlen, -, -⟩ := hl
  go_enter Try.func67, Try.ntmps67
  go_wp2_with fail
  go_loopw [8] (fun i wr => ∃ k : Nat, k ≤ l.length ∧ i = .int .i64 k ∧ Hid (∀ x ∈ l.take k, safeC x = true) ∧ Hid (Below w.heap.size w wr)) (fun i _ => l.length - (intOf i).toNat)
  case atStart => exact ⟨0, Nat.zero_le _, rfl, Lib.hid (by simp), Lib.hid (Below.refl _ _)⟩
  case round =>
    obtain ⟨k, hk, rfl, hno, hbr⟩ := hrel
    by_cases hlt : k < l.length
    · obtain ⟨_, _, ee, -, -, -, -, h5⟩ := HL.out.at hbr.out
      simp only [Value.slice.injEq, true_and] at ee
      obtain ⟨rfl, rfl⟩ := ee
      obtain ⟨b1, o1, ha, hc, la, lc, rfl, -, -, c0, c1, hH, hB⟩ := h5.cls hlt
      have HC := Lib.hid (show ClsV S wr (.agg #[.slice ha l[k].head.length hc, .slice la l[k].body.length lc]) l[k] from ⟨ha, hc, la, lc, rfl, hH, hB⟩)
      have hxs := Lib.hid (show safeC l[k] = true → ∀ y ∈ l.take (k + 1), safeC y = true from fun hp y hy => by
        rw [List.take_succ_eq_append_getElem hlt] at hy
        rcases List.mem_append.1 hy with h | h
        · exact hno.out y h
        · rw [List.mem_singleton] at h; rw [h]; exact hp)
      have hxa := Lib.hid (show safeC l[k] = false → oddCs l = true from fun hp => oddCs_yes hlt hp)
      obtain ⟨x, hxe⟩ : ∃ x, x = l[k] := ⟨_, rfl⟩
      rw [← hxe] at c0 c1 HC hxs hxa
      clear hxe h5 hno hH hB
      have hkl : (k : Int) < (l.length : Int) := by omega
      have hk0 : (0 : Int) ≤ (k : Int) := by omega
      go_wp2_with fail
      refine (oddC_spec HC.out).mono ?_
      rintro e w' ⟨rfl, hb⟩
      have HB := Lib.hid (below_step hb hbr.out)
      obtain ⟨p, hp⟩ : ∃ p, p = safeC x := ⟨_, rfl⟩
      rw [← hp] at hxs hxa ⊢
      clear hp hb
      cases p
      · have hst := Lib.hid (hxa.out rfl)
        go_wp2_with fail
        go_ret
        exact ⟨⟨_, rfl, ⟨by omega, by omega⟩, ⟨fun _ => by omega, fun _ => hst.out⟩⟩, HB.out⟩
      · have hst := Lib.hid (hxs.out rfl)
        go_wp2_with fail
        go_roundw
        case rel => exact ⟨k + 1, hlt, by go_num, hst, HB⟩
        case measure => simp [intOf]; omega
    · have hst := Lib.hid (show oddCs l = false from oddCs_no (by have := hno.out; rw [List.take_of_length_le (by omega)] at this; exact this))
      have hkl : ¬ (k : Int) < (l.length : Int) := by omega
      clear hno hlt
      go_wp2_with fail
      go_ret
      exact ⟨⟨_, rfl, ⟨by omega, by omega⟩, ⟨fun h => by rw [hst.out] at h; simp at h, fun h => by omega⟩⟩, hbr.out⟩
set_option maxRecDepth 100000 in
theorem containsC_spec {S : Nat → Prop} {w : World} {v : Value} {l : List Cls} (hl : Seq clsE S w v l) :
    Calls Try.prog 45 #[v, .func (.func 44) #[] #[]] w (RetV (.bool (oddCs l)) w) := by
  have HL := Lib.hid hl
  obtain ⟨ao, cap, rfl⟩ := hl.shape
  clear hl
  go_enter Try.func45, Try.ntmps45
  go_wp2_with fail
  refine (indexC_spec HL.out).mono ?_
  rintro e w' ⟨⟨i, rfl, hi, hif⟩, hb⟩
  have Hif := Lib.hid (show decide (0 ≤ i) = oddCs l by
    cases h : oddCs l with
    | true => exact decide_eq_true (hif.1 h)
    | false => exact decide_eq_false fun h2 => by rw [hif.2 h2] at h; simp at h)
  have HB := Lib.hid hb
  clear hif hb
  go_wp2_with fail
  go_ret
  exact ⟨ret_bool (by rw [← Hif.out]; try rfl), HB.out⟩
set_option maxHeartbeats 1600000 in
set_option maxRecDepth 100000 in
theorem RightP07_spec {S : Nat → Prop} {w : World} {v : Value} {l : List Cls} (hl : Seq clsE S w v l) :
    Calls Try.prog 15 #[v] w (RetV (.bool (rightC l)) w) := by
  have HL := Lib.hid hl
  obtain ⟨ao, cap, rfl, -, -, hlen, -, -⟩ := hl
  have hr := Lib.hid (oddCs_right l)
  go_enter Try.func15, Try.ntmps15
  by_cases hle : l.length ≤ 64
  · have hle2 : (l.length : Int) ≤ 64 := by omega
    have hr2 := Lib.hid (show rightC l = !oddCs l by rw [hr.out, decide_eq_true hle, Bool.true_and])
    clear hr hle
    go_wp2_with fail
    refine (containsC_spec HL.out).mono ?_
    rintro e w1 ⟨rfl, hb1⟩
    have HB1 := Lib.hid hb1
    clear hb1
    go_wp2_with fail
    go_ret
    exact ⟨ret_bool (by rw [hr2.out]; try rfl), HB1.out⟩
  · have hle2 : ¬ (l.length : Int) ≤ 64 := by omega
    have hr2 := Lib.hid (show rightC l = false by rw [hr.out, decide_eq_false hle, Bool.false_and])
    clear hr hle
    go_wp2_with fail
    go_ret
    exact ⟨ret_bool (by rw [hr2.out]; try rfl), Below.refl _ _⟩
end
end Go.Proofs.Ytadbdmnngmlnhaa
