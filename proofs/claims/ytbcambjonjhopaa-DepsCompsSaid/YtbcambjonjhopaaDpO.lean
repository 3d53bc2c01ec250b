/-
  The program: a map of pairs as a set; deps.reach, comp.
  The program: deps.Comps.
-/
import Derived.Test.YtbcambjonjhopaaDpM
import Derived.WideKeyPair
import Derived.Laws.EntriesVeiled
namespace Go.Proofs.Ytbcambjonjhopaa
section
open Go Go.RowKit

theorem arrP : WideMaps.ArrKey Try.prog 35 3 2 := ⟨Try.underlying35, by kernel_rfl, by kernel_rfl, by kernel_rfl⟩
theorem keyedP : Maps.Keyed Try.prog 35 := Maps.Keyed.of_law arrP.law
theorem typesP : ∃ m, Try.prog.types.size = m + 1 := ⟨Try.prog.types.size - 1, by
  have : 35 < Try.prog.types.size := of_decide_eq_true (by kernel_rfl)
  omega⟩
def keyP (p : Nat × Nat) : Lit := .string (keyBytes [.int .i64 (p.1 : Int), .int .i64 (p.2 : Int)])
def okP (p : Nat × Nat) : Prop := p.1 ≤ 1000000000 ∧ p.2 ≤ 1000000000
set_option maxRecDepth 100000 in
theorem keyP_of {a b : Nat} (h : okP (a, b)) : keyOf Try.prog 35 (.agg #[.int .i64 (a : Int), .int .i64 (b : Int)]) = some (keyP (a, b)) := by
  have h1 := h.1
  have h2 := h.2
  simp only at h1 h2
  have wa : (Lit.int .i64 (a : Int)).wf = true := wf_ok ⟨by omega, by omega⟩
  have wb : (Lit.int .i64 (b : Int)).wf = true := wf_ok ⟨by omega, by omega⟩
  have h3 := WideMaps.keyOf_pair (P := Try.prog) (k := 35) (e := 3) (q := .i64) arrP Try.underlying3 typesP wa wb
  dsimp only [keyP]
  exact h3
theorem keyP_inj : ∀ a b, okP a → okP b → keyP a = keyP b → a = b := by
  rintro ⟨a1, a2⟩ ⟨b1, b2⟩ ha hb h
  have h1 := keyP_of ha
  have h2 := keyP_of hb
  rw [← h] at h2
  have h3 := keyedP.inj h1 h2
  clear h1 h2 h
  simp only [Value.agg.injEq, Array.mk.injEq, List.cons.injEq, Value.int.injEq, true_and, and_true] at h3
  obtain ⟨h4, h5⟩ := h3
  rw [show a1 = b1 by omega, show a2 = b2 by omega]
theorem keyP_lit : ∀ a, WideAt.IsKeyLit (keyP a) := fun _ => by simp [keyP, WideAt.IsKeyLit]
/-- A map of pairs. -/
def MapP (w : World) (B : Nat) (s : List (Nat × Nat)) : Prop := B < w.heap.size ∧ ∃ n D, n ≤ s.length ∧ w.ownsMap Try.prog 35 Rv B n D ∧ SetK keyP okP D s
theorem MapP.at {w w' : World} {B : Nat} {s : List (Nat × Nat)} (h : MapP w B s) (hb : Below w.heap.size w w') : MapP w' B s := by
  obtain ⟨h3, n, D, hn, h4, h5⟩ := h
  exact ⟨Nat.lt_of_lt_of_le h3 hb.size, n, D, hn, ownsMap_at h4 (hb.block B h3), h5⟩
set_option maxRecDepth 100000 in
theorem MapP.look {w : World} {B : Nat} {s : List (Nat × Nat)} (h : MapP w B s) {a b : Nat} (hv : okP (a, b)) : (Instr.lookup 49 (.map (some B)) (.agg #[.int .i64 (a : Int), .int .i64 (b : Int)]) false).run Try.prog w = .ok (.bool (decide ((a, b) ∈ s))) w := by
  obtain ⟨-, n, D, -, h4, h5⟩ := h
  obtain ⟨u, ps, h6, h7⟩ := h4.lookup keyedP Try.underlying49 (zero_bool w) (zd := .held (.bool false)) (zp := []) rfl (keyP_of hv)
  rw [h5.2 _ hv] at h7
  unfold Rv at h7
  simp only [Option.some.injEq, Prod.mk.injEq] at h7
  obtain ⟨h8, -⟩ := h7
  have h8 := DataW.held.inj h8
  have h9 : Value.bool (decide ((a, b) ∈ s)) = u := by rw [h8]; exact congrArg Value.bool (decide_eq_decide.2 Iff.rfl)
  rw [h9]; exact h6

def FwdE (r : Res) (x y : Nat) : Prop := (x, y) ∈ edgL r
theorem fwdE_lt {r : Res} (h : RngR r) : ∀ x y, FwdE r x y → x < r.tabs.length → y < r.tabs.length := fun _ _ e _ => ((edgL_gr h).rng _ e).2
theorem rea_fwd {r : Res} {x i : Nat} : Pth (FwdE r) x i ↔ Rea (edgL r) x i := by
  constructor
  · intro h
    induction h with
    | refl => exact .refl
    | step _ e ih => exact ih.step e
  · intro h
    induction h with
    | refl => exact .refl
    | step _ e ih => exact ih.step e
def onV (bi bo bt bf : Nat) : Value := .func (.func 33) #[] #[.pointer (some ⟨bi, 0, none⟩), .pointer (some ⟨bo, 0, none⟩), .pointer (some ⟨bt, 0, none⟩), .pointer (some ⟨bf, 0, none⟩)]
structure OnM (w : World) (r : Res) (i bi bo bt bf B : Nat) (la : Option Addr) (lc : Nat) : Prop where
  ct : w.cell? ⟨bt, 2, none⟩ = some (.slice la r.lks.length lc)
  lt : bt < w.heap.size
  nt : bt ≠ B
  cf : w.cell? ⟨bf, 0, none⟩ = some (onV bi bo bt bf)
  lf : bf < w.heap.size
  nf : bf ≠ B
  ci : w.cell? ⟨bi, 0, none⟩ = some (.int .i64 (i : Int))
  li : bi < w.heap.size
  ni : bi ≠ B
  co : w.cell? ⟨bo, 0, none⟩ = some (.map (some B))
  lo : bo < w.heap.size
  no : bo ≠ B
  hE : Seq edgE (fun b => b ≠ B) w (.slice la r.lks.length lc) r.lks
theorem OnM.grow {w w' : World} {r : Res} {i bi bo bt bf B : Nat} {la : Option Addr} {lc : Nat} (h : OnM w r i bi bo bt bf B la lc) (hw : w.grownBy w' (some B)) : OnM w' r i bi bo bt bf B la lc :=
  ⟨(grown_cell hw h.lt (fun e => h.nt (Option.some.inj e).symm)).trans h.ct, Nat.lt_of_lt_of_le h.lt hw.size, h.nt, (grown_cell hw h.lf (fun e => h.nf (Option.some.inj e).symm)).trans h.cf, Nat.lt_of_lt_of_le h.lf hw.size, h.nf,
    (grown_cell hw h.li (fun e => h.ni (Option.some.inj e).symm)).trans h.ci, Nat.lt_of_lt_of_le h.li hw.size, h.ni, (grown_cell hw h.lo (fun e => h.no (Option.some.inj e).symm)).trans h.co, Nat.lt_of_lt_of_le h.lo hw.size, h.no,
    grown_seq h.hE hw fun _ hb e => hb (Option.some.inj e).symm⟩
/-- The pairs of one with those met. -/
def prs (P : List (Nat × Nat)) (i : Nat) (t : List Nat) : List (Nat × Nat) := P ++ t.map fun x => (i, x)
theorem prs_mem {P : List (Nat × Nat)} {i n : Nat} {t : List Nat} (hP : ∀ p ∈ P, p.1 < i) : (i, n) ∈ prs P i t ↔ n ∈ t := by
  unfold prs
  rw [List.mem_append, List.mem_map]
  constructor
  · rintro (h | ⟨x, hx, e⟩)
    · exact absurd (hP _ h) (Nat.lt_irrefl _)
    · injection e with _ e; subst e; exact hx
  · exact fun h => .inr ⟨n, h, rfl⟩
theorem prs_snoc (P : List (Nat × Nat)) (i n : Nat) (t : List Nat) : prs P i t ++ [(i, n)] = prs P i (t ++ [n]) := by
  unfold prs; rw [List.map_append, List.append_assoc]; rfl

set_option maxHeartbeats 6400000 in
set_option maxRecDepth 100000 in
theorem on_spec {r : Res} (hrg : RngR r) (hN : r.tabs.length ≤ 1000) (hM : r.lks.length ≤ 1000) {i : Nat} {P : List (Nat × Nat)} (hi : i < r.tabs.length) (hP : ∀ p ∈ P, p.1 < i) (hPl : P.length ≤ 1000000000) : ∀ (m : Nat) {w : World} {n : Nat} {s : List Nat} {bi bo bt bf B lc : Nat} {la : Option Addr} (_ : n < r.tabs.length) (_ : s.Nodup) (_ : ∀ x ∈ s, x < r.tabs.length) (_ : r.tabs.length ≤ s.length + m)
    (_ : MapP w B (prs P i s)) (_ : OnM w r i bi bo bt bf B la lc),
    Calls Try.prog 33 #[.int .i64 n, .pointer (some ⟨bi, 0, none⟩), .pointer (some ⟨bo, 0, none⟩), .pointer (some ⟨bt, 0, none⟩), .pointer (some ⟨bf, 0, none⟩)] w
      (fun e w' => e = .returned (.tuple #[]) ∧ w.grownBy w' (some B) ∧ ∃ t, Vis (FwdE r) n s t ∧ MapP w' B (prs P i t)) := by
  intro m
  induction m with
  | zero =>
    intro w n s bi bo bt bf B lc la hn hnd hlt hm hmap hbm
    have hin : n ∈ s := by
      apply Classical.byContradiction
      intro h
      have := nodup_lt (s := n :: s) (N := r.tabs.length) (List.nodup_cons.2 ⟨h, hnd⟩) (fun x hx => by
        rcases List.mem_cons.1 hx with rfl | hx
        · exact hn
        · exact hlt x hx)
      simp at this; omega
    obtain ⟨W, hW⟩ : ∃ W, W = w.alloc (.cells #[.int .i64 (i : Int), .int .i64 (n : Int)] 35) := ⟨_, rfl⟩
    have HW := Lib.hid hW
    have HBW := Lib.hid (show Below w.heap.size w W by rw [hW]; exact Seq.way)
    have GW := Lib.hid (show w.grownBy W (some B) by rw [hW]; exact World.grownBy_alloc _ _ _)
    have hRw := Lib.hid (show Row 35 W w.heap.size [.int .i64 (i : Int), .int .i64 (n : Int)] by rw [hW]; exact Row.new w [_, _] _ rfl)
    obtain ⟨bq, hbq⟩ : ∃ b, b = w.heap.size := ⟨_, rfl⟩
    have Hbq := Lib.hid hbq
    rw [← hbq] at hRw
    have d0 := hRw.out.cell (j := 0) (by simp)
    have d1 := hRw.out.cell (j := 1) (by simp)
    simp only [List.getElem_cons_zero, List.getElem_cons_succ] at d0 d1
    have dl := hRw.out.lt
    have hl := (hmap.at HBW.out).look (a := i) (b := n) ⟨by simp only; omega, by simp only; omega⟩
    rw [decide_eq_true ((prs_mem hP).2 hin)] at hl
    have HV := Lib.hid (Vis.old (E := FwdE r) hnd hin)
    have HM := Lib.hid (hmap.at HBW.out)
    have ci := hbm.ci
    have li := hbm.li
    obtain ⟨ct, lt, nt, cf, lf, nf, ciW, liW, niW, co, lo, no, hE⟩ := hbm.grow GW.out
    clear hmap hbm hin hlt hnd hm hW hbq hE cf hRw
    go_enter Try.func33, Try.ntmps33
    go_upto_region 1 with fail
    rw [← HW.out, ← Hbq.out]
    clear ci li
    go_wp2_with fail
    (first | go_end0 | ((try simp only [Exit.inBlock, Exit.then]); refine bodyPost_ret (results_none rfl _ _ _) rfl ?_))
    exact ⟨rfl, GW.out, s, HV.out, HM.out⟩
  | succ m ih =>
    intro w n s bi bo bt bf B lc la hn hnd hlt hm hmap hbm
    by_cases hin : n ∈ s
    · obtain ⟨W, hW⟩ : ∃ W, W = w.alloc (.cells #[.int .i64 (i : Int), .int .i64 (n : Int)] 35) := ⟨_, rfl⟩
      have HW := Lib.hid hW
      have HBW := Lib.hid (show Below w.heap.size w W by rw [hW]; exact Seq.way)
      have GW := Lib.hid (show w.grownBy W (some B) by rw [hW]; exact World.grownBy_alloc _ _ _)
      have hRw := Lib.hid (show Row 35 W w.heap.size [.int .i64 (i : Int), .int .i64 (n : Int)] by rw [hW]; exact Row.new w [_, _] _ rfl)
      obtain ⟨bq, hbq⟩ : ∃ b, b = w.heap.size := ⟨_, rfl⟩
      have Hbq := Lib.hid hbq
      rw [← hbq] at hRw
      have d0 := hRw.out.cell (j := 0) (by simp)
      have d1 := hRw.out.cell (j := 1) (by simp)
      simp only [List.getElem_cons_zero, List.getElem_cons_succ] at d0 d1
      have dl := hRw.out.lt
      have hl := (hmap.at HBW.out).look (a := i) (b := n) ⟨by simp only; omega, by simp only; omega⟩
      rw [decide_eq_true ((prs_mem hP).2 hin)] at hl
      have HV := Lib.hid (Vis.old (E := FwdE r) hnd hin)
      have HM := Lib.hid (hmap.at HBW.out)
      have ci := hbm.ci
      have li := hbm.li
      obtain ⟨ct, lt, nt, cf, lf, nf, ciW, liW, niW, co, lo, no, hE⟩ := hbm.grow GW.out
      clear hmap hbm hin hlt hnd hm hW hbq hE cf hRw
      go_enter Try.func33, Try.ntmps33
      go_upto_region 1 with fail
      rw [← HW.out, ← Hbq.out]
      clear ci li
      go_wp2_with fail
      (first | go_end0 | ((try simp only [Exit.inBlock, Exit.then]); refine bodyPost_ret (results_none rfl _ _ _) rfl ?_))
      exact ⟨rfl, GW.out, s, HV.out, HM.out⟩
    · obtain ⟨W, hW⟩ : ∃ W, W = w.alloc (.cells #[.int .i64 (i : Int), .int .i64 (n : Int)] 35) := ⟨_, rfl⟩
      have HW := Lib.hid hW
      have HBW := Lib.hid (show Below w.heap.size w W by rw [hW]; exact Seq.way)
      have GW := Lib.hid (show w.grownBy W (some B) by rw [hW]; exact World.grownBy_alloc _ _ _)
      have hRw := Lib.hid (show Row 35 W w.heap.size [.int .i64 (i : Int), .int .i64 (n : Int)] by rw [hW]; exact Row.new w [_, _] _ rfl)
      obtain ⟨bq, hbq⟩ : ∃ b, b = w.heap.size := ⟨_, rfl⟩
      have Hbq := Lib.hid hbq
      have hqB : bq ≠ B := by have := hmap.1; omega
      rw [← hbq] at hRw
      have d0 := hRw.out.cell (j := 0) (by simp)
      have d1 := hRw.out.cell (j := 1) (by simp)
      simp only [List.getElem_cons_zero, List.getElem_cons_succ] at d0 d1
      have dl := hRw.out.lt
      have hmapW := hmap.at HBW.out
      have hl := hmapW.look (a := i) (b := n) ⟨by simp only; omega, by simp only; omega⟩
      rw [decide_eq_false (fun h => hin ((prs_mem hP).1 h))] at hl
      have hbW := hbm.grow GW.out
      have HBM := Lib.hid hbm
      obtain ⟨hBl, nn, D, hnn, hown, hset⟩ := hmapW
      have HV := Lib.hid (VisTo.start (E := FwdE r) hnd hin)
      have Hlt := Lib.hid hlt
      have Hm := Lib.hid hm
      have Hown := Lib.hid hown
      have Hset := Lib.hid (setK_put keyP_inj keyP_lit hset (v := (i, n)) ⟨by simp only; omega, by simp only; omega⟩)
      rw [prs_snoc] at Hset
      have hsl := nodup_lt hnd hlt
      have Hnn := Lib.hid (show nn ≤ P.length + s.length by have h := hnn; unfold prs at h; rw [List.length_append, List.length_map] at h; exact h)
      have ci := hbm.ci
      have li := hbm.li
      obtain ⟨ct, lt, nt, cf, lf, nf, ciW, liW, niW, co, lo, no, hE⟩ := hbW
      clear hbm hin hlt hnd hm hown hset hnn hmap hW hbq hE cf hRw
      go_enter Try.func33, Try.ntmps33
      go_upto_region 1 with fail
      rw [← HW.out, ← Hbq.out]
      clear ci li
      go_wp2_with (at_mapUpdate; refine wpList_mapUpdate_own _ rfl _ _ _ 49 rfl 35 4 keyedP Try.underlying49 Rv B nn D rfl Hown.out (by have := Hnn.out; unfold maxLen; omega) _ _ _ rfl rfl (keyP_of ⟨by simp only; omega, by simp only; omega⟩) _ [] rfl ?_)
      intro w1 hown1 hg1
      have G1 := Lib.hid (grown_from HBW.out hg1)
      have HM1 := Lib.hid (show MapP w1 B (prs P i (s ++ [n])) from
        ⟨Nat.lt_of_lt_of_le hBl hg1.size, nn + 1, _, by unfold prs; rw [List.length_append, List.length_map, List.length_append]; have := Hnn.out; simp; omega, hown1, Hset.out⟩)
      have K := fun {W' : World} (h : w.grownBy W' (some B)) => Lib.hid (HBM.out.grow h)
      clear ct lt nt lf nf ciW liW niW co lo no hown1 hl d0 d1 dl
      obtain ⟨ct, lt, nt, cf, lf, nf, ciW, liW, niW, co, lo, no, hE⟩ := (K G1.out).out
      clear hg1 hE cf
      go_wp2_with fail
      clear ct lt nt lf nf ciW liW niW co lo no
      go_loopw [21] (fun z wr => ∃ (k : Nat) (t : List Nat), k ≤ r.lks.length ∧ z = .int .i64 k ∧ Hid (VisTo (FwdE r) n (fun y => ∃ j, j < k ∧ (edgL r)[j]? = some (n, y)) s t) ∧ Hid (MapP wr B (prs P i t)) ∧ Hid (w.grownBy wr (some B))) (fun z _ => r.lks.length - (intOf z).toNat)
      case atStart => exact ⟨0, s ++ [n], Nat.zero_le _, rfl, Lib.hid (HV.out.skip fun z ⟨j, hj, _⟩ => absurd hj (Nat.not_lt_zero _)), HM1, G1⟩
      case round =>
        obtain ⟨k, t, hk, rfl, hV, hMt, hgr⟩ := hrel
        obtain ⟨ct, lt, nt, cf, lf, nf, ciW, liW, niW, co, lo, no, hE⟩ := (K hgr.out).out
        by_cases hkl : k < r.lks.length
        · obtain ⟨_, _, ee, -, -, -, -, x5⟩ := hE
          simp only [Value.slice.injEq, true_and] at ee
          obtain ⟨rfl, rfl⟩ := ee
          obtain ⟨b1, o1, rfl, -, l1, c0, c1, -, -⟩ := x5.edg hkl
          obtain ⟨a, b, ha, hb2, hab, h1, h2⟩ := edgL_at hrg hkl
          have hab2 := Lib.hid (show (edgL r)[k]? = some (a, b) by rw [List.getElem?_eq_getElem (by rw [edgL_len]; exact hkl), hab])
          rw [ha] at c0
          rw [hb2] at c1
          have hkI : (k : Int) < (r.lks.length : Int) := by omega
          have hk0 : (0 : Int) ≤ (k : Int) := by omega
          have HBr := Lib.hid (K hgr.out).out
          unfold onV at cf
          clear x5 ha hb2 hab
          by_cases han : a = n
          · subst han
            have hbe : ((a : Int) == (a : Int)) = true := by simp
            go_wp2_with fail
            have HA := Lib.hid (Seq.way : Below wr.heap.size wr (wr.alloc (.cells #[.int .i64 (a : Int), .int .i64 (b : Int)] 35)))
            refine (ih (n := b) (s := t) h2 hV.out.nd (hV.out.lt Hlt.out hn (fwdE_lt hrg)) (by have h3 := hV.out.len; have h4 := Hm.out; omega) (hMt.out.at HA.out) (HBr.out.grow (World.grownBy_alloc _ _ _))).mono ?_
            rintro e z1 ⟨rfl, hg1, t', hv1, hm1⟩
            have HG := Lib.hid (grown_trans (grown_of hgr.out HA.out) hg1)
            have HM2 := Lib.hid hm1
            have HV2 := Lib.hid ((hV.out.step (show FwdE r a b from List.mem_of_getElem? hab2.out) hv1).skip (D' := fun y => ∃ j, j < k + 1 ∧ (edgL r)[j]? = some (a, y)) fun z ⟨j, hj, hz⟩ => by
              by_cases e : j = k
              · subst e
                rw [hab2.out] at hz
                simp only [Option.some.injEq, Prod.mk.injEq] at hz
                exact .inr hz.2.symm
              · exact .inl ⟨j, by omega, hz⟩)
            clear hg1 hv1 hm1
            go_wp2_with fail
            go_roundw
            case rel => exact ⟨k + 1, t', hkl, by go_num, HV2, HM2, HG⟩
            case measure => simp [intOf]; omega
          · have hbe : ((a : Int) == (n : Int)) = false := by simp; omega
            have hbe2 : ((a : Int) = (n : Int)) = False := eq_false (by omega)
            go_wp2_with fail
            go_roundw
            case rel => exact ⟨k + 1, t, hkl, by go_num, Lib.hid (hV.out.skip fun z ⟨j, hj, hz⟩ => by
              by_cases e : j = k
              · subst e
                rw [hab2.out] at hz
                simp only [Option.some.injEq, Prod.mk.injEq] at hz
                exact absurd hz.1 han
              · exact ⟨j, by omega, hz⟩), Lib.hid (hMt.out.at Seq.way), Lib.hid (grown_of hgr.out Seq.way)⟩
            case measure => simp [intOf]; omega
        · have hkI : ¬ (k : Int) < (r.lks.length : Int) := by omega
          have hfin := Lib.hid (hV.out.fin fun y hy => by
            obtain ⟨j, hj⟩ := List.getElem?_of_mem hy
            refine ⟨j, ?_, hj⟩
            have := (List.getElem?_eq_some_iff.1 hj).1
            rw [edgL_len] at this; omega)
          clear hkl hE
          go_wp2_with fail
          go_end0
          exact ⟨rfl, hgr.out, t, hfin.out, hMt.out⟩

/-- What is so of the pairs. -/
def PairsOK (r : Res) (P : List (Nat × Nat)) : Prop := ∀ a b, a < r.tabs.length → b < r.tabs.length → decide ((a, b) ∈ P) = reB (edgL r) r.tabs.length a b
def RetM (r : Res) (w : World) (e : Ending) (w' : World) : Prop := ∃ B P, e = .returned (.map (some B)) ∧ Below w.heap.size w w' ∧ w.heap.size ≤ B ∧ MapP w' B P ∧ PairsOK r P
/-- How far all pairs have come. -/
structure PrTo (r : Res) (k : Nat) (P : List (Nat × Nat)) : Prop where
  lt : ∀ p ∈ P, p.1 < k
  iff : ∀ a b, a < k → ((a, b) ∈ P ↔ Rea (edgL r) a b)
  len : P.length ≤ k * 1000
theorem PrTo.zero (r : Res) : PrTo r 0 [] := ⟨fun _ h => absurd h List.not_mem_nil, fun _ _ h => absurd h (Nat.not_lt_zero _), by simp⟩
theorem PrTo.succ {r : Res} {k : Nat} {P : List (Nat × Nat)} (h : PrTo r k P) (hrg : RngR r) (hk : k < r.tabs.length) (hN : r.tabs.length ≤ 1000) {t : List Nat} (hv : Vis (FwdE r) k [] t) : PrTo r (k + 1) (prs P k t) := by
  have hc := (Clo.nil (FwdE r)).add hv
  have hl := nodup_lt hv.nd (hv.lt (fun _ h => absurd h List.not_mem_nil) hk (fwdE_lt hrg))
  refine ⟨fun p hp => ?_, fun a b ha => ?_, ?_⟩
  · unfold prs at hp
    rcases List.mem_append.1 hp with h1 | h1
    · have := h.lt p h1; omega
    · obtain ⟨x, -, rfl⟩ := List.mem_map.1 h1
      simp
  · by_cases e : a = k
    · subst e
      rw [prs_mem h.lt, hc.iff]
      exact ⟨fun ⟨x, hx, hp⟩ => by
        rcases hx with hx | rfl
        · exact hx.elim
        · exact rea_fwd.1 hp, fun h1 => ⟨a, .inr rfl, rea_fwd.2 h1⟩⟩
    · rw [← h.iff a b (by omega)]
      unfold prs
      rw [List.mem_append]
      refine ⟨fun h1 => ?_, .inl⟩
      rcases h1 with h1 | h1
      · exact h1
      · obtain ⟨x, -, e2⟩ := List.mem_map.1 h1
        injection e2 with e2 _
        exact absurd e2.symm e
  · unfold prs
    have := h.len
    rw [List.length_append, List.length_map]
    omega
theorem PrTo.ok {r : Res} {P : List (Nat × Nat)} (h : PrTo r r.tabs.length P) (hrg : RngR r) : PairsOK r P := fun a b ha _ => by
  rw [Bool.eq_iff_iff, decide_eq_true_eq, h.iff a b ha, (edgL_gr hrg).re ha]

set_option maxHeartbeats 6400000 in
set_option maxRecDepth 100000 in
theorem reachP_spec {S : Nat → Prop} {w : World} {v : Value} {r : Res} (hr : ResV S w v r) (hro : ResOK r) :
    Calls Try.prog 19 #[v] w (RetM r w) := by
  obtain ⟨ta, tc, ia, il, ic, la, lc, rfl, hT, hE⟩ := hr
  obtain ⟨W, hW⟩ : ∃ W, W = w.alloc (.cells #[.slice ta r.tabs.length tc, .slice ia il ic, .slice la r.lks.length lc] 26) := ⟨_, rfl⟩
  have HBW := Lib.hid (show Below w.heap.size w W by rw [hW]; exact Seq.way)
  have HT := Lib.hid (hT.any.at HBW.out)
  have HE := Lib.hid (hE.any.at HBW.out)
  have HW := Lib.hid hW
  obtain ⟨bt, hbt⟩ : ∃ b, b = w.heap.size := ⟨_, rfl⟩
  have Hbt := Lib.hid hbt
  have HR := Lib.hid (show RowA 26 W bt [.slice ta r.tabs.length tc, .slice ia il ic, .slice la r.lks.length lc] by rw [hW, hbt]; exact Row.new w [_, _, _] _ rfl)
  have Kr := fun {W' : World} (h : Below W.heap.size W W') => Lib.hid (show W'.cell? ⟨bt, 0, none⟩ = some (.slice ta r.tabs.length tc) ∧ W'.cell? ⟨bt, 1, none⟩ = some (.slice ia il ic) ∧ W'.cell? ⟨bt, 2, none⟩ = some (.slice la r.lks.length lc) ∧ bt < W'.heap.size from
    ⟨(HR.out.at h).row.cell (j := 0) (by simp), (HR.out.at h).row.cell (j := 1) (by simp), (HR.out.at h).row.cell (j := 2) (by simp), (HR.out.at h).row.lt⟩)
  clear hT hE hW hbt
  have Hro := Lib.hid hro
  have hrl := hro.tl
  have hmm := @run_makeMap Try.prog
  clear hro
  go_enter Try.func19, Try.ntmps19
  go_upto_region 1 with fail
  rw [← HW.out, ← Hbt.out]
  obtain ⟨r0, r1, r2, rl⟩ := (Kr (Below.refl _ W)).out
  go_upto_region 2 with fail
  obtain ⟨W2, hW2⟩ : ∃ W2, W2 = (W.alloc (.map #[] 0)).alloc (.cells #[.map (some W.heap.size)] 49) := ⟨_, rfl⟩
  have HB2 := Lib.hid (show Below W.heap.size W W2 by rw [hW2]; exact Seq.way)
  have hm0 : MapP W2 W.heap.size [] := by
    rw [hW2]
    exact ⟨by simp; omega, 0, _, Nat.le_refl _, (World.ownsMap_made W Try.prog 35 Rv).alloc _, setK_nil _ _⟩
  have hco : W2.cell? ⟨W.heap.size + 1, 0, none⟩ = some (.map (some W.heap.size)) ∧ W.heap.size + 1 < W2.heap.size := by
    have h3 := Row.new (W.alloc (.map #[] 0)) [.map (some W.heap.size)] 49 (B := W.heap.size + 1) (by simp)
    rw [hW2]
    exact ⟨h3.cell (j := 0) (by simp), h3.lt⟩
  have hbtw := rl
  have hz2 : W2.heap.size = W.heap.size + 2 := by rw [hW2]; simp
  rw [← hW2]
  obtain ⟨bo, hbo⟩ : ∃ b, b = W.heap.size + 1 := ⟨_, rfl⟩
  obtain ⟨Bm, hBm⟩ : ∃ b, b = W.heap.size := ⟨_, rfl⟩
  simp only [← hbo] at hco ⊢
  simp only [← hBm] at hm0 hco ⊢
  have Hz := Lib.hid (show Bm = W.heap.size ∧ bo = W.heap.size + 1 ∧ W2.heap.size = W.heap.size + 2 from ⟨hBm, hbo, hz2⟩)
  have HM0 := Lib.hid hm0
  have hEb := Lib.hid (show Seq edgE (fun b => b ≠ Bm) W2 (.slice la r.lks.length lc) r.lks from (HE.out.bnd.at HB2.out).mono (fun b hb _ => by have := hb.2; omega) fun _ _ _ => rfl)
  have Kb := fun {W' : World} (h : W2.grownBy W' (some Bm)) => Lib.hid (show W'.cell? ⟨bt, 0, none⟩ = some (.slice ta r.tabs.length tc) ∧ W'.cell? ⟨bt, 1, none⟩ = some (.slice ia il ic) ∧ W'.cell? ⟨bt, 2, none⟩ = some (.slice la r.lks.length lc) ∧ bt < W'.heap.size ∧ W'.cell? ⟨bo, 0, none⟩ = some (.map (some Bm)) ∧ bo < W'.heap.size from by
    have h4 := (Kr HB2.out).out
    have hne : some Bm ≠ some bt := fun e => by simp only [Option.some.injEq] at e; omega
    exact ⟨(grown_cell h h4.2.2.2 hne).trans h4.1, (grown_cell h h4.2.2.2 hne).trans h4.2.1, (grown_cell h h4.2.2.2 hne).trans h4.2.2.1, Nat.lt_of_lt_of_le h4.2.2.2 h.size, (grown_cell h hco.2 (fun e => by simp only [Option.some.injEq] at e; omega)).trans hco.1, Nat.lt_of_lt_of_le hco.2 h.size⟩)
  have hfW := fun {W' : World} (h : W2.grownBy W' (some Bm)) => Lib.hid (show Below w.heap.size w W' from (below_step HB2.out HBW.out).trans (grown_below h (by have := Hz.out.1; have := HBW.out.size; omega) (by have := HB2.out.size; have := HBW.out.size; omega)))
  have hBw := Lib.hid (show w.heap.size ≤ Bm from by have := HBW.out.size; omega)
  have hbtm := Lib.hid (show bt < Bm from by omega)
  clear hW2 hm0 hco hbo hBm hz2 r0 r1 r2 rl hmm hbtw
  obtain ⟨r0, r1, r2, rl, co, lo⟩ := (Kb (World.grownBy.refl W2 _)).out
  go_wp2_with fail
  clear r0 r1 r2 rl co lo
  go_loopw [10] (fun i wz => ∃ (k : Nat) (P : List (Nat × Nat)), k ≤ r.tabs.length ∧ i = .int .i64 k ∧ Hid (PrTo r k P) ∧ Hid (MapP wz Bm P) ∧ Hid (W2.grownBy wz (some Bm))) (fun i _ => r.tabs.length - (intOf i).toNat)
  case atStart => exact ⟨0, [], Nat.zero_le _, rfl, Lib.hid (PrTo.zero r), HM0, Lib.hid (World.grownBy.refl _ _)⟩
  case round =>
    obtain ⟨k, P, hk, rfl, hP, hMt, hgr⟩ := hrel
    obtain ⟨r0, r1, r2, rl, co, lo⟩ := (Kb hgr.out).out
    by_cases hkl : k < r.tabs.length
    · have hkI : (k : Int) < (r.tabs.length : Int) := by omega
      have hk0 : (0 : Int) ≤ (k : Int) := by omega
      go_upto_region 7 with fail
      obtain ⟨W3, hW3⟩ : ∃ W3, W3 = (wr.alloc (.cells #[.int .i64 (k : Int)] 3)).alloc (.cells #[onV wr.heap.size bo bt (wr.heap.size + 1)] 60) := ⟨_, rfl⟩
      have HB3 := Lib.hid (show Below wr.heap.size wr W3 by rw [hW3]; exact Seq.way)
      have hG3 := Lib.hid (show wr.grownBy W3 (some Bm) from grown_of (World.grownBy.refl _ _) HB3.out)
      have hi3 : W3.cell? ⟨wr.heap.size, 0, none⟩ = some (.int .i64 (k : Int)) ∧ wr.heap.size < W3.heap.size := by
        have h3 := (Row.new wr [.int .i64 (k : Int)] 3 (B := wr.heap.size) rfl).alloc (.cells #[onV wr.heap.size bo bt (wr.heap.size + 1)] 60)
        rw [hW3]
        exact ⟨h3.cell (j := 0) (by simp), h3.lt⟩
      have hf3 : W3.cell? ⟨wr.heap.size + 1, 0, none⟩ = some (onV wr.heap.size bo bt (wr.heap.size + 1)) ∧ wr.heap.size + 1 < W3.heap.size := by
        have h3 := Row.new (wr.alloc (.cells #[.int .i64 (k : Int)] 3)) [onV wr.heap.size bo bt (wr.heap.size + 1)] 60 (B := wr.heap.size + 1) (by simp)
        rw [hW3]
        exact ⟨h3.cell (j := 0) (by simp), h3.lt⟩
      rw [show (wr.alloc (.cells #[.int .i64 (k : Int)] 3)).alloc (.cells #[.func (.func 33) #[] #[.pointer (some ⟨wr.heap.size, 0, none⟩), .pointer (some ⟨bo, 0, none⟩), .pointer (some ⟨bt, 0, none⟩), .pointer (some ⟨wr.heap.size + 1, 0, none⟩)]] 60) = W3 from hW3.symm]
      have hBl := hMt.out.1
      obtain ⟨bf, hbf⟩ : ∃ b, b = wr.heap.size + 1 := ⟨_, rfl⟩
      obtain ⟨bi, hbi⟩ : ∃ b, b = wr.heap.size := ⟨_, rfl⟩
      simp only [← hbf] at hf3 hi3 ⊢
      simp only [← hbi] at hf3 hi3 ⊢
      have h4 := (Kb (grown_trans hgr.out hG3.out)).out
      have HO := Lib.hid (show OnM W3 r k bi bo bt bf Bm la lc from
        ⟨h4.2.2.1, h4.2.2.2.1, by have := hbtm.out; omega, hf3.1, hf3.2, by omega, hi3.1, hi3.2, by omega, h4.2.2.2.2.1, h4.2.2.2.2.2, by have := Hz.out; omega, grown_seq hEb.out (grown_trans hgr.out hG3.out) fun _ hb e => hb (Option.some.inj e).symm⟩)
      have HM3 := Lib.hid (show MapP W3 Bm (prs P k []) by unfold prs; rw [List.map_nil, List.append_nil]; exact hMt.out.at HB3.out)
      have Hi3 := Lib.hid hi3
      have cf := hf3.1
      have lf := hf3.2
      have ci := hi3.1
      have li := hi3.2
      unfold onV at cf
      clear hW3 hf3 hi3 hbf hbi h4 r0 r1 r2 rl co lo
      go_wp2_with fail
      refine (on_spec Hro.out.rg Hro.out.tl Hro.out.ll hkl hP.out.lt (by have := hP.out.len; omega) r.tabs.length (n := k) (s := []) hkl List.nodup_nil (fun _ h => absurd h List.not_mem_nil) (by simp) HM3.out HO.out).mono ?_
      rintro e z1 ⟨rfl, hg1, t', hv1, hm1⟩
      have HG := Lib.hid (grown_trans (grown_trans hgr.out hG3.out) hg1)
      have HM2 := Lib.hid hm1
      have HP2 := Lib.hid (hP.out.succ Hro.out.rg hkl Hro.out.tl hv1)
      clear hg1 hv1 hm1 cf lf ci li
      go_wp2_with fail
      go_roundw
      case rel => exact ⟨k + 1, prs P k t', hkl, by go_num, HP2, HM2, HG⟩
      case measure => simp [intOf]; omega
    · have hkI : ¬ (k : Int) < (r.tabs.length : Int) := by omega
      have hke : k = r.tabs.length := by omega
      have hfin := Lib.hid (show PairsOK r P from PrTo.ok (hke ▸ hP.out) Hro.out.rg)
      clear hkl hke
      go_wp2_with fail
      go_ret
      exact ⟨_, _, rfl, (hfW hgr.out).out, hBw.out, hMt.out, hfin.out⟩

set_option maxHeartbeats 6400000 in
set_option maxRecDepth 100000 in
theorem compP_spec {S : Nat → Prop} {w : World} {v : Value} {r : Res} {n B : Nat} {P : List (Nat × Nat)} (hr : ResV S w v r) (hn : n < r.tabs.length) (hrl : r.tabs.length ≤ 1000) (hm : MapP w B P) (hP : PairsOK r P) :
    Calls Try.prog 21 #[v, .map (some B), .int .i64 n] w (Ret (fun o w' => Seq intE (fun b => w.heap.size ≤ b) w' o (natsZ (cmpoL r n))) w) := by
  obtain ⟨ta, tc, ia, il, ic, la, lc, rfl, hT, hE⟩ := hr
  obtain ⟨W, hW⟩ : ∃ W, W = w.alloc (.cells #[.slice ta r.tabs.length tc, .slice ia il ic, .slice la r.lks.length lc] 26) := ⟨_, rfl⟩
  have HBW := Lib.hid (show Below w.heap.size w W by rw [hW]; exact Seq.way)
  have HT := Lib.hid (hT.any.at HBW.out)
  have HE := Lib.hid (hE.any.at HBW.out)
  have HW := Lib.hid hW
  obtain ⟨bt, hbt⟩ : ∃ b, b = w.heap.size := ⟨_, rfl⟩
  have Hbt := Lib.hid hbt
  have HR := Lib.hid (show RowA 26 W bt [.slice ta r.tabs.length tc, .slice ia il ic, .slice la r.lks.length lc] by rw [hW, hbt]; exact Row.new w [_, _, _] _ rfl)
  have Kr := fun {W' : World} (h : Below W.heap.size W W') => Lib.hid (show W'.cell? ⟨bt, 0, none⟩ = some (.slice ta r.tabs.length tc) ∧ W'.cell? ⟨bt, 1, none⟩ = some (.slice ia il ic) ∧ W'.cell? ⟨bt, 2, none⟩ = some (.slice la r.lks.length lc) ∧ bt < W'.heap.size from
    ⟨(HR.out.at h).row.cell (j := 0) (by simp), (HR.out.at h).row.cell (j := 1) (by simp), (HR.out.at h).row.cell (j := 2) (by simp), (HR.out.at h).row.lt⟩)
  clear hT hE hW hbt
  have HM := Lib.hid (hm.at HBW.out)
  have HP := Lib.hid hP
  have hdef := Lib.hid (show cmpoL r n = fltN (fun j => reB (edgL r) r.tabs.length n j && reB (edgL r) r.tabs.length j n) r.tabs.length from rfl)
  obtain ⟨f, hf⟩ : ∃ f, f = (fun j => reB (edgL r) r.tabs.length n j && reB (edgL r) r.tabs.length j n) := ⟨_, rfl⟩
  have Hf := Lib.hid (fun j => show (reB (edgL r) r.tabs.length n j && reB (edgL r) r.tabs.length j n) = f j by rw [hf])
  rw [← hf] at hdef
  clear hm hP hf
  go_enter Try.func21, Try.ntmps21
  go_upto_region 1 with fail
  rw [← HW.out, ← Hbt.out]
  obtain ⟨r0, r1, r2, rl⟩ := (Kr (Below.refl _ W)).out
  go_wp2_with fail
  have hown0 := Lib.hid (show Own intE (fun _ => False) W.heap.size 3 W (.slice none 0 0) (natsZ (fltN f 0)) from Own.nil _ _ _ _ _)
  clear r0 r1 r2 rl
  go_loopw [7, 12] (fun o i wz => ∃ k : Nat, k ≤ r.tabs.length ∧ i = .int .i64 k ∧ Hid (Own intE (fun _ => False) W.heap.size 3 wz o (natsZ (fltN f k))) ∧ Hid (Below W.heap.size W wz)) (fun _ i _ => r.tabs.length - (intOf i).toNat)
  case atStart => exact ⟨0, Nat.zero_le _, rfl, hown0, Lib.hid (Below.refl _ _)⟩
  case round =>
    obtain ⟨k, hk, rfl, hown, hbz⟩ := hrel
    have hzr := hbz.out.size
    have hln2 := fltN_len f k
    have hsq := Lib.hid (hown.out.seq (S := fun _ => False) (T := fun _ => True) (by omega) fun _ _ _ => trivial)
    obtain ⟨oa, oc, rfl⟩ := hsq.out.shape
    by_cases hkl : k < r.tabs.length
    · have hkI : (k : Int) < (r.tabs.length : Int) := by omega
      have hk0 : (0 : Int) ≤ (k : Int) := by omega
      have hl1 := (HM.out.at hbz.out).look (a := n) (b := k) ⟨by simp only; omega, by simp only; omega⟩
      have hl2 := (HM.out.at hbz.out).look (a := k) (b := n) ⟨by simp only; omega, by simp only; omega⟩
      rw [HP.out n k hn hkl] at hl1
      rw [HP.out k n hkl hn] at hl2
      have hfk := Hf.out k
      obtain ⟨q1, hq1⟩ : ∃ q, q = reB (edgL r) r.tabs.length n k := ⟨_, rfl⟩
      obtain ⟨q2, hq2⟩ : ∃ q, q = reB (edgL r) r.tabs.length k n := ⟨_, rfl⟩
      rw [← hq1] at hl1 hfk
      rw [← hq2] at hl2 hfk
      have Hfk := Lib.hid hfk
      clear hq1 hq2 hfk
      by_cases hqq : q1 = true ∧ q2 = true
      · obtain ⟨rfl, rfl⟩ := hqq
        have hy2 := Lib.hid (fltN_yes (f := f) (k := k) Hfk.out.symm)
        go_wp2_with (at_builtin; refine wpList_app_int rfl _ _ 31 rfl Try.underlying31 infoInt rfl hown.out rfl (y := (k : Int)) Seq.way ⟨by omega, by omega⟩ ?_ ?_ ?_ ?_)
        · go_simp
        · omega
        · exact hzr
        · intro ao cap w' hown' hkept
          have H' := Lib.hid hown'
          have K' := Lib.hid (Below.trans hbz.out (Below.trans (Below.mono (Seq.way : Below _ _ _) hzr) hkept.below))
          clear hown' hkept hl1 hl2
          go_wp2_with fail
          go_roundw
          case rel => exact ⟨k + 1, hkl, by go_num, Lib.hid (by rw [hy2.out]; simpa using H'.out), K'⟩
          case measure => simp [intOf]; omega
      · have hno2 := Lib.hid (fltN_no (f := f) (k := k) (by rw [← Hfk.out]; cases q1 <;> cases q2 <;> simp_all))
        have hqc : q1 = false ∨ q1 = true ∧ q2 = false := by cases q1 <;> cases q2 <;> simp_all
        clear hqq Hfk
        rcases hqc with rfl | ⟨rfl, rfl⟩
        all_goals
          go_wp2_with fail
          go_roundw
          case rel => exact ⟨k + 1, hkl, by go_num, Lib.hid (by rw [hno2.out]; exact hown.out), hbz⟩
          case measure => simp [intOf]; omega
    · have hkI : ¬ (k : Int) < (r.tabs.length : Int) := by omega
      have hke := Lib.hid (show k = r.tabs.length by omega)
      have hfin := Lib.hid (show Seq intE (fun b => w.heap.size ≤ b) wr (.slice oa (natsZ (fltN f k)).length oc) (natsZ (cmpoL r n)) by
        rw [hdef.out, ← hke.out]
        have h1 := HBW.out.size
        exact hown.out.seq (by omega) fun b _ hb => hb.elim False.elim fun h => by omega)
      clear hkl
      go_wp2_with fail
      go_ret
      exact ⟨_, rfl, below_step hbz.out HBW.out, hfin.out⟩
end
section
open Go Go.RowKit

/-- May one be told now, by marks? -/
def hindB (L : List (Nat × Nat)) (N : Nat) (s : List Bool) (n k : Nat) : Bool := reB L N n k && !reB L N k n && !mkB s k
def rdyM (L : List (Nat × Nat)) (N : Nat) (s : List Bool) (n : Nat) : Bool := !(List.range N).any (hindB L N s n) && !mkB s n
def Marks (s : List Bool) (N : Nat) (tl : List Nat) : Prop := s.length = N ∧ ∀ k, k < N → mkB s k = decide (k ∈ tl)
theorem rdyM_eq {L : List (Nat × Nat)} {N : Nat} {s : List Bool} {tl : List Nat} {n : Nat} (hm : Marks s N tl) (hn : n < N) : rdyM L N s n = readyB L N tl n := by
  rw [Bool.eq_iff_iff, readyB_iff]
  unfold rdyM
  rw [Bool.and_eq_true, Bool.not_eq_true', Bool.not_eq_true', List.any_eq_false, hm.2 n hn, decide_eq_false_iff_not]
  constructor
  · rintro ⟨h1, h2⟩
    refine ⟨h2, fun k hk => ?_⟩
    have hkN := reB_lt hk
    have h3 := h1 k (List.mem_range.2 hkN)
    unfold hindB at h3
    rw [hk, hm.2 k hkN] at h3
    by_cases hkt : k ∈ tl
    · exact .inl hkt
    · right
      cases hb : reB L N k n with
      | true => rfl
      | false => rw [hb, decide_eq_false hkt] at h3; exact absurd rfl h3
  · rintro ⟨h1, h2⟩
    refine ⟨fun k hk => ?_, h1⟩
    have hkN := List.mem_range.1 hk
    unfold hindB
    cases hb : reB L N n k with
    | false => simp
    | true =>
      rcases h2 k hb with h3 | h3
      · rw [hm.2 k hkN, decide_eq_true h3]; simp
      · rw [h3]; simp
theorem hind_yes {L : List (Nat × Nat)} {N n k : Nat} {s : List Bool} (hk : k < N) (h : hindB L N s n k = true) : rdyM L N s n = false := by
  unfold rdyM
  rw [List.any_eq_true.2 ⟨k, List.mem_range.2 hk, h⟩]; rfl
theorem hind_no {L : List (Nat × Nat)} {N n : Nat} {s : List Bool} (h : ∀ k, k < N → hindB L N s n k = false) : rdyM L N s n = !mkB s n := by
  unfold rdyM
  rw [List.any_eq_false.2 fun k hk => by rw [h k (List.mem_range.1 hk)]; simp]; rfl

set_option maxHeartbeats 6400000 in
set_option maxRecDepth 100000 in
theorem ready_spec {w : World} {r : Res} {n bt bo bl g B ic il tc : Nat} {ta : Option Addr} {P : List (Nat × Nat)} {s : List Bool} (hn : n < r.tabs.length) (hrl : r.tabs.length ≤ 1000)
    (ct : w.cell? ⟨bt, 0, none⟩ = some (.slice ta r.tabs.length tc)) (_lt : bt < w.heap.size) (co : w.cell? ⟨bo, 0, none⟩ = some (.map (some B))) (_lo : bo < w.heap.size)
    (cl : w.cell? ⟨bl, 0, none⟩ = some (.slice (some ⟨g, 0, none⟩) il ic)) (_ll : bl < w.heap.size) (hil : il = r.tabs.length) (hR : RowB 4 w g s) (hs : s.length = r.tabs.length) (hm : MapP w B P) (hP : PairsOK r P) :
    Calls Try.prog 20 #[.int .i64 n, .pointer (some ⟨bt, 0, none⟩), .pointer (some ⟨bo, 0, none⟩), .pointer (some ⟨bl, 0, none⟩)] w (PureV (.bool (rdyM (edgL r) r.tabs.length s n)) w) := by
  have HM := Lib.hid hm
  have HP := Lib.hid hP
  have HR := Lib.hid hR
  have Hs := Lib.hid hs
  have hnI : (n : Int) < (r.tabs.length : Int) := by omega
  have hn0 : (0 : Int) ≤ (n : Int) := by omega
  subst hil
  have gl := hR.lt
  clear hm hP hR hs
  go_enter Try.func20, Try.ntmps20
  go_wp2_with fail
  go_loopw [10] (fun i wr => ∃ k : Nat, k ≤ r.tabs.length ∧ i = .int .i64 k ∧ Hid (∀ j, j < k → hindB (edgL r) r.tabs.length s n j = false) ∧ w = wr) (fun i _ => r.tabs.length - (intOf i).toNat)
  case atStart => exact ⟨0, Nat.zero_le _, rfl, Lib.hid (fun i h => absurd h (Nat.not_lt_zero _)), rfl⟩
  case round =>
    obtain ⟨k, hk, rfl, hno, rfl⟩ := hrel
    by_cases hkl : k < r.tabs.length
    · have hkI : (k : Int) < (r.tabs.length : Int) := by omega
      have hk0 : (0 : Int) ≤ (k : Int) := by omega
      have hl1 := HM.out.look (a := n) (b := k) ⟨by simp only; omega, by simp only; omega⟩
      have hl2 := HM.out.look (a := k) (b := n) ⟨by simp only; omega, by simp only; omega⟩
      rw [HP.out n k hn hkl] at hl1
      rw [HP.out k n hkl hn] at hl2
      have d0 := HR.out.cell (j := k) (by rw [Hs.out]; exact hkl)
      rw [mkB_get] at d0
      have hy := Lib.hid (fun h => hind_yes (L := edgL r) (N := r.tabs.length) (n := n) (s := s) hkl h)
      have hz := Lib.hid (fun (h : hindB (edgL r) r.tabs.length s n k = false) => show ∀ j, j < k + 1 → hindB (edgL r) r.tabs.length s n j = false from fun j hj => by
        by_cases e : j = k
        · subst e; exact h
        · exact hno.out j (by omega))
      have hqd := Lib.hid (show hindB (edgL r) r.tabs.length s n k = (reB (edgL r) r.tabs.length n k && !reB (edgL r) r.tabs.length k n && !mkB s k) from rfl)
      obtain ⟨q, hq⟩ : ∃ q, q = hindB (edgL r) r.tabs.length s n k := ⟨_, rfl⟩
      rw [← hq] at hy hz hqd
      obtain ⟨q1, hq1⟩ : ∃ q, q = reB (edgL r) r.tabs.length n k := ⟨_, rfl⟩
      obtain ⟨q2, hq2⟩ : ∃ q, q = reB (edgL r) r.tabs.length k n := ⟨_, rfl⟩
      obtain ⟨q3, hq3⟩ : ∃ q, q = mkB s k := ⟨_, rfl⟩
      rw [← hq1] at hl1 hqd
      rw [← hq2] at hl2 hqd
      rw [← hq3] at d0 hqd
      clear hq hq1 hq2 hq3
      by_cases hqq : q1 = true ∧ q2 = false ∧ q3 = false
      · obtain ⟨rfl, rfl, rfl⟩ := hqq
        have hy' := Lib.hid (hy.out hqd.out)
        go_wp2_with fail
        go_ret
        exact ⟨ret_bool hy'.out.symm, rfl⟩
      · have hz' := Lib.hid (hz.out (by rw [hqd.out]; cases q1 <;> cases q2 <;> cases q3 <;> simp_all))
        have hqc : q1 = false ∨ q1 = true ∧ q2 = true ∨ q1 = true ∧ q2 = false ∧ q3 = true := by cases q1 <;> cases q2 <;> cases q3 <;> simp_all
        clear hqq hqd hy hz
        rcases hqc with rfl | ⟨rfl, rfl⟩ | ⟨rfl, rfl, rfl⟩
        all_goals
          go_wp2_with fail
          go_roundw
          case rel => exact ⟨k + 1, hkl, by go_num, hz', by first | rfl | trivial⟩
          case measure => simp [intOf]; omega
    · have hkI : ¬ (k : Int) < (r.tabs.length : Int) := by omega
      have hfin := Lib.hid (hind_no (L := edgL r) (N := r.tabs.length) (n := n) (s := s) fun j hj => hno.out j (by omega))
      have d0 := HR.out.cell (j := n) (by rw [Hs.out]; exact hn)
      rw [mkB_get] at d0
      obtain ⟨q3, hq3⟩ : ∃ q, q = mkB s n := ⟨_, rfl⟩
      rw [← hq3] at d0 hfin
      clear hkl hq3
      go_wp2_with fail
      go_ret
      exact ⟨ret_bool hfin.out.symm, rfl⟩

/-- Marks put in. -/
def markL (s : List Bool) (l : List Nat) : List Bool := l.foldl (fun s x => s.set x true) s
theorem markL_len (s : List Bool) (l : List Nat) : (markL s l).length = s.length := by
  unfold markL
  induction l generalizing s with
  | nil => rfl
  | cons a l ih => rw [List.foldl_cons, ih, List.length_set]
theorem markL_at {s : List Bool} {l : List Nat} (hl : ∀ x ∈ l, x < s.length) (k : Nat) : mkB (markL s l) k = (mkB s k || decide (k ∈ l)) := by
  unfold markL
  induction l generalizing s with
  | nil => simp
  | cons a l ih =>
    rw [List.foldl_cons, ih (fun x hx => by rw [List.length_set]; exact hl x (List.mem_cons_of_mem _ hx)), mkB_set (hl a (List.mem_cons_self ..))]
    rw [Bool.eq_iff_iff]
    simp only [Bool.or_eq_true, decide_eq_true_eq, List.mem_cons]
    constructor
    · rintro ((h | h) | h)
      · exact .inr (.inl h)
      · exact .inl h
      · exact .inr (.inr h)
    · rintro (h | h | h)
      · exact .inl (.inr h)
      · exact .inl (.inl h)
      · exact .inr h
theorem markL_snoc {s : List Bool} {l : List Nat} {j : Nat} (h : j < l.length) : markL s (l.take (j + 1)) = (markL s (l.take j)).set l[j] true := by
  unfold markL
  rw [List.take_succ_eq_append_getElem h, List.foldl_append]; rfl
theorem Marks.more {s : List Bool} {N : Nat} {tl l : List Nat} (h : Marks s N tl) (hl : ∀ x ∈ l, x < N) : Marks (markL s l) N (tl ++ l) :=
  ⟨(markL_len s l).trans h.1, fun k hk => by
    rw [markL_at (by rw [h.1]; exact hl), h.2 k hk, Bool.eq_iff_iff]
    simp [List.mem_append]⟩

theorem grown_under {w0 w w' : World} {g : Nat} (h : w0.grownBy w (some g)) (hb : Below w0.heap.size w w') : w0.grownBy w' (some g) :=
  ⟨hb.os.trans h.os, hb.tape.trans h.tape, hb.output.trans h.output, Nat.le_trans h.size hb.size, fun k hk hne => (hb.block k hk).trans (h.block k hk hne)⟩
theorem row_grown {T : TypeId} {w w' : World} {B g : Nat} {vs : List Value} (h : Row T w B vs) (hw : w.grownBy w' (some g)) (hne : B ≠ g) : Row T w' B vs := h.at (hw.block B h.lt fun e => hne (Option.some.inj e))

set_option maxHeartbeats 12800000 in
set_option maxRecDepth 100000 in
theorem CompsP_spec {S : Nat → Prop} {w : World} {v : Value} {r : Res} (hr : ResV S w v r) (hro : ResOK r) :
    Calls Try.prog 6 #[v] w (Ret (fun o w' => Seq (seqE intE) (fun b => w.heap.size ≤ b) w' o ((cmpsL r).map natsZ)) w) := by
  obtain ⟨ta, tc, ia, il, ic, la, lc, rfl, hT, hE⟩ := hr
  obtain ⟨W, hW⟩ : ∃ W, W = w.alloc (.cells #[.slice ta r.tabs.length tc, .slice ia il ic, .slice la r.lks.length lc] 26) := ⟨_, rfl⟩
  have HBW := Lib.hid (show Below w.heap.size w W by rw [hW]; exact Seq.way)
  have HT := Lib.hid (hT.any.at HBW.out)
  have HE := Lib.hid (hE.any.at HBW.out)
  have HW := Lib.hid hW
  obtain ⟨bt, hbt⟩ : ∃ b, b = w.heap.size := ⟨_, rfl⟩
  have Hbt := Lib.hid hbt
  have HR := Lib.hid (show RowA 26 W bt [.slice ta r.tabs.length tc, .slice ia il ic, .slice la r.lks.length lc] by rw [hW, hbt]; exact Row.new w [_, _, _] _ rfl)
  have Kr := fun {W' : World} (h : Below W.heap.size W W') => Lib.hid (show W'.cell? ⟨bt, 0, none⟩ = some (.slice ta r.tabs.length tc) ∧ W'.cell? ⟨bt, 1, none⟩ = some (.slice ia il ic) ∧ W'.cell? ⟨bt, 2, none⟩ = some (.slice la r.lks.length lc) ∧ bt < W'.heap.size from
    ⟨(HR.out.at h).row.cell (j := 0) (by simp), (HR.out.at h).row.cell (j := 1) (by simp), (HR.out.at h).row.cell (j := 2) (by simp), (HR.out.at h).row.lt⟩)
  clear hT hE hW hbt
  have Hro := Lib.hid hro
  have hrl := hro.tl
  have Hgr := Lib.hid (edgL_gr hro.rg)
  have hmk := run_make_row' (P := Try.prog) 51 4 (.bool false) 1 Try.underlying51 infoBool23 rfl .i64 .i64 r.tabs.length (by omega) (by omega)
  clear hro
  go_enter Try.func6, Try.ntmps6
  go_upto_region 1 with fail
  rw [← HW.out, ← Hbt.out]
  obtain ⟨r0, r1, r2, rl⟩ := (Kr (Below.refl _ W)).out
  go_wp2_with fail
  refine (reachP_spec (ResV.mk HT.out HE.out) Hro.out).mono ?_
  rintro e w1 ⟨B, P, rfl, hb1, hB1, hm1, hp1⟩
  have HB1 := Lib.hid hb1
  have HM1 := Lib.hid hm1
  have HP1 := Lib.hid hp1
  have hmb := hm1.1
  clear hb1 hm1 hp1 r0 r1 r2 rl
  obtain ⟨r0, r1, r2, rl⟩ := (Kr HB1.out).out
  go_upto_region 5 with fail
  clear hmk
  obtain ⟨W5, hW5⟩ : ∃ W5, W5 = ((w1.alloc (.cells #[.map (some B)] 49)).alloc (.cells (madeCells #[.bool false] r.tabs.length) 4)).alloc (.cells #[.slice (some ⟨w1.heap.size + 1, 0, none⟩) r.tabs.length r.tabs.length] 51) := ⟨_, rfl⟩
  have HB5 := Lib.hid (show Below w1.heap.size w1 W5 by rw [hW5]; exact Seq.way)
  have hz5 : W5.heap.size = w1.heap.size + 3 := by rw [hW5]; simp
  have hR5 : RowB 4 W5 (w1.heap.size + 1) (List.replicate r.tabs.length false) := by
    rw [hW5]
    exact (RowB.made (w1.alloc (.cells #[.map (some B)] 49)) r.tabs.length 4 (by simp)).alloc _
  have ho5 : W5.cell? ⟨w1.heap.size, 0, none⟩ = some (.map (some B)) := by
    rw [hW5]
    exact (((Row.new w1 [.map (some B)] 49 (B := w1.heap.size) rfl).alloc _).alloc _).cell (j := 0) (by simp)
  have hl5 : W5.cell? ⟨w1.heap.size + 1 + 1, 0, none⟩ = some (.slice (some ⟨w1.heap.size + 1, 0, none⟩) r.tabs.length r.tabs.length) := by
    rw [hW5]
    exact (Row.new _ [.slice (some ⟨w1.heap.size + 1, 0, none⟩) r.tabs.length r.tabs.length] 51 (B := w1.heap.size + 1 + 1) (by simp)).cell (j := 0) (by simp)
  rw [← hW5]
  obtain ⟨bl, hbl⟩ : ∃ b, b = w1.heap.size + 1 + 1 := ⟨_, rfl⟩
  obtain ⟨g, hg⟩ : ∃ b, b = w1.heap.size + 1 := ⟨_, rfl⟩
  obtain ⟨bo, hbo⟩ : ∃ b, b = w1.heap.size := ⟨_, rfl⟩
  simp only [← hbl] at hR5 ho5 hl5 ⊢
  simp only [← hg] at hR5 ho5 hl5 ⊢
  simp only [← hbo] at hR5 ho5 hl5 ⊢
  have Hz := Lib.hid (show bo = w1.heap.size ∧ g = w1.heap.size + 1 ∧ bl = w1.heap.size + 2 ∧ W5.heap.size = w1.heap.size + 3 ∧ bt < w1.heap.size ∧ B < w1.heap.size from ⟨hbo, hg, by omega, hz5, rl, hmb⟩)
  have HR5 := Lib.hid hR5
  have Kb := fun {W' : World} (h : W5.grownBy W' (some g)) => Lib.hid (show W'.cell? ⟨bt, 0, none⟩ = some (.slice ta r.tabs.length tc) ∧ W'.cell? ⟨bt, 1, none⟩ = some (.slice ia il ic) ∧ W'.cell? ⟨bt, 2, none⟩ = some (.slice la r.lks.length lc) ∧ bt < W'.heap.size ∧ W'.cell? ⟨bo, 0, none⟩ = some (.map (some B)) ∧ bo < W'.heap.size ∧ W'.cell? ⟨bl, 0, none⟩ = some (.slice (some ⟨g, 0, none⟩) r.tabs.length r.tabs.length) ∧ bl < W'.heap.size from by
    have h4 := (Kr (below_step HB5.out HB1.out)).out
    have hz := Hz.out
    have hne : some g ≠ some bt := fun e => by simp only [Option.some.injEq] at e; omega
    have hno : some g ≠ some bo := fun e => by simp only [Option.some.injEq] at e; omega
    have hnl : some g ≠ some bl := fun e => by simp only [Option.some.injEq] at e; omega
    have hs := h.size
    exact ⟨(grown_cell h h4.2.2.2 hne).trans h4.1, (grown_cell h h4.2.2.2 hne).trans h4.2.1, (grown_cell h h4.2.2.2 hne).trans h4.2.2.1, by omega, (grown_cell h (by omega) hno).trans ho5, by omega, (grown_cell h (by omega) hnl).trans hl5, by omega⟩)
  have KM := fun {W' : World} (h : W5.grownBy W' (some g)) => Lib.hid (show MapP W' B P from by
    obtain ⟨h3, n, D, hn, h4, h5⟩ := HM1.out.at HB5.out
    have hz := Hz.out
    exact ⟨Nat.lt_of_lt_of_le h3 h.size, n, D, hn, ownsMap_at h4 (h.block B h3 fun e => by simp only [Option.some.injEq] at e; omega), h5⟩)
  have KR := fun {W' : World} (h : W5.grownBy W' (some g)) => Lib.hid (show Seq tabE (fun _ => True) W' (.slice ta r.tabs.length tc) r.tabs ∧ Seq edgE (fun _ => True) W' (.slice la r.lks.length lc) r.lks from by
    have hz := Hz.out
    have hw := HB1.out.size
    exact ⟨(grown_seq (HT.out.bnd.at (below_step HB5.out HB1.out)) h (fun b hb e => by have := hb.2; simp only [Option.some.injEq] at e; omega)).any, (grown_seq (HE.out.bnd.at (below_step HB5.out HB1.out)) h (fun b hb e => by have := hb.2; simp only [Option.some.injEq] at e; omega)).any⟩)
  have hfW := fun {W' : World} (h : W5.grownBy W' (some g)) => Lib.hid (show Below w.heap.size w W' from (below_step (below_step HB5.out HB1.out) HBW.out).trans (grown_below h (by have := Hz.out; have := HBW.out.size; have := HB1.out.size; omega) (by have := Hz.out; have := HBW.out.size; have := HB1.out.size; omega)))
  have hzw := Lib.hid (show w.heap.size ≤ W5.heap.size from by have := HBW.out.size; have := HB1.out.size; omega)
  clear hW5 hR5 ho5 hl5 hbl hg hbo hz5 r0 r1 r2 rl hmb
  have hown0 := Lib.hid (show Own (seqE intE) (fun b => W5.heap.size ≤ b) W5.heap.size 31 W5 (.slice none 0 0) (([] : List (List Nat)).map natsZ) from Own.nil _ _ _ _ _)
  have hmk0 := Lib.hid (show Marks (List.replicate r.tabs.length false) r.tabs.length [] from ⟨by simp, fun k _ => by rw [mkB_rep]; simp⟩)
  go_loopw [5] (fun o wz => ∃ (C : List (List Nat)) (tl : List Nat) (f : Nat) (s : List Bool), Hid (cmpsL r = C ++ compsF (edgL r) r.tabs.length f tl) ∧ Hid (Told (edgL r) r.tabs.length tl) ∧ Hid (r.tabs.length + 1 ≤ tl.length + f) ∧ C.length ≤ tl.length ∧ tl.length ≤ r.tabs.length ∧
      Hid (Marks s r.tabs.length tl) ∧ Hid (RowB 4 wz g s) ∧ Hid (Own (seqE intE) (fun b => W5.heap.size ≤ b) W5.heap.size 31 wz o (C.map natsZ)) ∧ Hid (W5.grownBy wz (some g)))
    (fun o _ => r.tabs.length + 1 - sliceLen o)
  case atStart => exact ⟨[], [], r.tabs.length + 1, _, Lib.hid rfl, Lib.hid (told_nil _ _), Lib.hid (by simp), by simp, by simp, hmk0, HR5, hown0, Lib.hid (World.grownBy.refl _ _)⟩
  case round =>
    obtain ⟨C, tl, f, s, hC, hT, hf, hCl, htl, hMk, hRz, hO, hgr⟩ := hrel
    obtain ⟨wo, rfl⟩ : ∃ Z, Z = wr := ⟨_, rfl⟩
    have hzr := hgr.out.size
    have hcl : (C.map natsZ).length = C.length := List.length_map ..
    obtain ⟨oa, oc, hov, -, -⟩ := hO.out.shape
    rw [hcl] at hov
    subst hov
    obtain ⟨r0, r1, r2, rl, co, lo, cl, ll⟩ := (Kb hgr.out).out
    go_upto_region 7 with fail
    go_loopw [7, 22] (fun q i wy => ∃ k : Nat, k ≤ r.tabs.length ∧ i = .int .i64 k ∧ q = .int .i64 (-1) ∧ Hid (∀ j, j < k → readyB (edgL r) r.tabs.length tl j = false) ∧ wo = wy) (fun _ i _ => r.tabs.length - (intOf i).toNat)
    case atStart => exact ⟨0, Nat.zero_le _, rfl, rfl, Lib.hid (fun i h => absurd h (Nat.not_lt_zero _)), rfl⟩
    case round =>
      obtain ⟨k, hk, rfl, rfl, hno, rfl⟩ := hrel
      by_cases hkl : k < r.tabs.length
      · have hkI : (k : Int) < (r.tabs.length : Int) := by omega
        have hk0 : (0 : Int) ≤ (k : Int) := by omega
        have hcall := Lib.hid (ready_spec hkl hrl r0 rl co lo cl ll rfl hRz.out hMk.out.1 (KM hgr.out).out HP1.out)
        rw [rdyM_eq hMk.out hkl] at hcall
        have hnx := Lib.hid (fun h => nextO_of (L := edgL r) (n := r.tabs.length) (told := tl) hkl h hno.out)
        have hz := Lib.hid (show readyB (edgL r) r.tabs.length tl k = false → ∀ j, j < k + 1 → readyB (edgL r) r.tabs.length tl j = false from fun h j hj => by
          by_cases e : j = k
          · subst e; exact h
          · exact hno.out j (by omega))
        obtain ⟨rb, hrb⟩ : ∃ b, b = readyB (edgL r) r.tabs.length tl k := ⟨_, rfl⟩
        rw [← hrb] at hcall hnx hz
        clear hrb
        go_wp2_with fail
        refine hcall.out.mono ?_
        rintro e _ ⟨rfl, rfl⟩
        clear hcall
        cases rb with
        | false =>
          have hz' := Lib.hid (hz.out rfl)
          clear hz hnx
          go_wp2_with fail
          go_roundw
          case rel => exact ⟨k + 1, hkl, by go_num, rfl, hz', by first | rfl | trivial⟩
          case measure => simp [intOf]; omega
        | true =>
          have Hnx := Lib.hid (hnx.out rfl)
          clear hz hnx
          have hnd := Lib.hid (readyB_iff.1 (nextO_some Hnx.out).2.1).1
          obtain ⟨f', hf'⟩ : ∃ f', f = f' + 1 := ⟨f - 1, by have := hf.out; omega⟩
          have hCs := Lib.hid (show cmpsL r = (C ++ [cmpoL r k]) ++ compsF (edgL r) r.tabs.length f' (tl ++ cmpoL r k) by
            rw [hC.out, hf', compsF_some Hnx.out, List.append_assoc]; rfl)
          have hTs := Lib.hid (show Told (edgL r) r.tabs.length (tl ++ cmpoL r k) from hT.out.more Hgr.out hkl hnd.out)
          have hcp := Lib.hid (show 0 < (cmpoL r k).length from compL_pos Hgr.out hkl)
          have hfs := Lib.hid (show r.tabs.length + 1 ≤ (tl ++ cmpoL r k).length + f' by
            have h1 := hf.out
            have h2 := hcp.out
            rw [List.length_append]; omega)
          have hclt := Lib.hid (show ∀ x ∈ cmpoL r k, x < r.tabs.length from fun x hx => compL_lt hx)
          have hMks := Lib.hid (hMk.out.more hclt.out)
          have hcml := cmpoL_len r k
          have hc1 := natsZ_len (cmpoL r k)
          have hsl := hMk.out.1
          have hng : ((k : Int) < 0) = False := eq_false (by omega)
          have hcall := Lib.hid (compP_spec (ResV.mk (ia := ia) (il := il) (ic := ic) (KR hgr.out).out.1 (KR hgr.out).out.2) hkl hrl (KM hgr.out).out HP1.out)
          obtain ⟨cm, hcm⟩ : ∃ x, x = cmpoL r k := ⟨_, rfl⟩
          rw [← hcm] at hCs hTs hcp hfs hclt hMks hcml hc1 hcall
          clear hf' hcm hno
          go_wp2_with fail
          refine hcall.out.mono ?_
          rintro e w9 ⟨u9, rfl, hb9, hu9⟩
          have HB9 := Lib.hid hb9
          have hz9 := hb9.size
          obtain ⟨ca, cc, hcv⟩ := hu9.shape
          rw [hc1] at hcv
          subst hcv
          have HU9 := Lib.hid hu9
          have hR9 := Lib.hid (hRz.out.below hb9 hRz.out.lt)
          have hO9 := Lib.hid (hO.out.move hb9)
          have hg9 := Lib.hid (grown_of hgr.out hb9)
          have hglt := hRz.out.lt
          have hgz : g < W5.heap.size := by have := Hz.out; omega
          clear hu9 hb9 hcall r0 r1 r2 rl co lo cl ll
          go_wp2_with fail
          go_loopw [39] (fun i wy => ∃ j : Nat, j ≤ cm.length ∧ i = .int .i64 j ∧ Hid (RowB 4 wy g (markL s (cm.take j))) ∧ Hid (w9.grownBy wy (some g))) (fun i _ => cm.length - (intOf i).toNat)
          case atStart => exact ⟨0, Nat.zero_le _, rfl, hR9, Lib.hid (World.grownBy.refl _ _)⟩
          case round =>
            obtain ⟨j, hj, rfl, hRy, hgy⟩ := hrel
            obtain ⟨r0, r1, r2, rl, co, lo, cl, ll⟩ := (Kb (grown_trans hg9.out hgy.out)).out
            by_cases hjl : j < cm.length
            · obtain ⟨_, _, ee, -, -, -, -, x5⟩ := grown_seq HU9.out hgy.out (fun b hb e => by simp only [Option.some.injEq] at e; omega)
              simp only [Value.slice.injEq] at ee
              obtain ⟨rfl, -, rfl⟩ := ee
              obtain ⟨b1, o1, rfl, -, l1, c0, -⟩ := x5.int (k := j) (by rw [hc1]; exact hjl)
              rw [natsZ_get hjl] at c0
              have hxl := hclt.out _ (List.getElem_mem hjl)
              have hst := Lib.hid (markL_snoc (s := s) hjl)
              obtain ⟨x, hx⟩ : ∃ x, x = cm[j] := ⟨_, rfl⟩
              rw [← hx] at c0 hxl hst
              have hml := markL_len s (cm.take j)
              have d1 := hRy.out.cell (j := x) (by rw [hml, hsl]; exact hxl)
              have d2 := hRy.out.frozen x
              generalize (markL s (cm.take j))[x]'(by rw [hml, hsl]; exact hxl) = old2 at d1
              have hset := Lib.hid (hRy.out.set x true)
              have hjI : (j : Int) < (cm.length : Int) := by omega
              have hj0 : (0 : Int) ≤ (j : Int) := by omega
              have hxI : (x : Int) < (r.tabs.length : Int) := by omega
              have hx0 : (0 : Int) ≤ (x : Int) := by omega
              have hgS := Lib.hid (grown_trans hgy.out (grown_setCell wr g x (.bool true)))
              clear x5 hx r0 r1 r2 rl co lo
              go_wp2_with fail
              go_roundw
              case rel => exact ⟨j + 1, hjl, by go_num, Lib.hid (by rw [hst.out]; exact hset.out), hgS⟩
              case measure => simp [intOf]; omega
            · have hjI : ¬ (j : Int) < (cm.length : Int) := by omega
              have hRf := Lib.hid (show RowB 4 wr g (markL s cm) from by
                have h := hRy.out
                rw [List.take_of_length_le (by omega)] at h
                exact h)
              have hgf := Lib.hid (grown_trans hg9.out hgy.out)
              have hOf := Lib.hid (show Own (seqE intE) (fun b => W5.heap.size ≤ b) W5.heap.size 31 wr (.slice oa C.length oc) (C.map natsZ) from hO9.out.moveO (fun b hl hb => hgy.out.block b hl (fun e => by simp only [Option.some.injEq] at e; have := (hO9.out.blk hb).1; omega)) fun b hl hb => hgy.out.block b hl (fun e => by simp only [Option.some.injEq] at e; omega))
              have hUf := Lib.hid (grown_seq HU9.out hgy.out (fun b hb e => by simp only [Option.some.injEq] at e; omega))
              have hzf := hgy.out.size
              have hne := Lib.hid (show ∀ b, wo.heap.size ≤ b → (Value.slice oa C.length oc).ownBlock ≠ some b from fun b hb e => by have := (hO.out.blk e).2; omega)
              clear hjl r0 r1 r2 rl co lo cl ll
              go_wp2_with (at_builtin; refine wpList_app_seqW rfl _ _ 29 rfl Try.underlying29 infoInts rfl (hOf.out.move Seq.way) rfl (y := natsZ cm) (Sy := fun b => wo.heap.size ≤ b) (hUf.out.at Seq.way) (fun b hb _ => ⟨Nat.le_trans hzr hb, hne.out b hb⟩) ?_ ?_ ?_ ?_)
              · first | omega | (rw [hcl]; omega)
              · first | omega | (simp only [World.size_alloc]; omega)
              · intro ao2 cap2 w2 hown2 hk2
                have H2 := Lib.hid (show Own (seqE intE) (fun b => W5.heap.size ≤ b) W5.heap.size 31 w2 (.slice ao2 (C.length + 1) cap2) ((C ++ [cm]).map natsZ) by
                  rw [List.map_append]
                  have h := hown2
                  first | exact h | (rw [hcl] at h; exact h))
                try rw [hcl] at hk2
                try rw [hcl]
                have K2 := Lib.hid (show Below W5.heap.size wr w2 from Below.trans (Below.mono (Seq.way : Below wr.heap.size wr _) (by omega)) hk2.below)
                have G2 := Lib.hid (grown_under hgf.out K2.out)
                have hR2 := Lib.hid (hRf.out.below K2.out (by omega))
                have hlen3 := hTs.out.len
                have hlc : (tl ++ cm).length = tl.length + cm.length := List.length_append ..
                have hcp2 := hcp.out
                clear hown2 hk2
                go_wp2_with fail
                go_roundw
                case rel => exact ⟨C ++ [cm], tl ++ cm, f', _, hCs, hTs, hfs, by rw [List.length_append, List.length_append]; simp; omega, hlen3, hMks, hR2, H2, G2⟩
                case measure => simp only [sliceLen]; omega
      · have hkI : ¬ (k : Int) < (r.tabs.length : Int) := by omega
        have hfin := Lib.hid (show cmpsL r = C by
          rw [hC.out, compsF_none (nextO_no fun j hj => hno.out j (by omega)), List.append_nil])
        have hret := Lib.hid (show Seq (seqE intE) (fun b => w.heap.size ≤ b) wo (.slice oa C.length oc) ((cmpsL r).map natsZ) by
          rw [hfin.out]
          have h1 := hzw.out
          have h2 := hO.out.seqB (T := fun b => w.heap.size ≤ b) (by rw [hcl]; omega) fun b _ hb => by
            rcases hb with hb | hb
            · omega
            · have := (hO.out.blk hb).1; omega
          first | exact h2 | (rw [hcl] at h2; exact h2))
        clear hkl
        go_wp2_with fail
        go_ret
        exact ⟨_, rfl, (hfW hgr.out).out, hret.out⟩
end
end Go.Proofs.Ytbcambjonjhopaa
