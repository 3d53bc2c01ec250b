/-
  Layer 16, the program: the closure of ground.Cut that marks.
-/
import Derived.Test.YtaedgpcmkagpeaaGreatGsY
import Derived.Test.YtaedgpcmkagpeaaGreatGsQ
namespace Go.Proofs.YtaedgpcmkagpeaaGreat
open Go Go.RowKit

/-! ### Plain: what leans on what -/
def litsN (g : Prog) (i : Int) : List Int := (g.rules[i.toNat]?.map fun r => r.pos ++ r.neg).getD []
def LeanE (g : Prog) (x y : Nat) : Prop := (x, y) ∈ edgG g
theorem litsN_at {g : Prog} {k : Nat} (hk : k < g.rules.length) : litsN g (k : Int) = g.rules[k].pos ++ g.rules[k].neg := by
  unfold litsN
  rw [Int.toNat_natCast, List.getElem?_eq_getElem hk]; rfl
theorem lean_of {g : Prog} (h : RightG g) {n : Nat} {i x : Int} (hi : i ∈ ofR g (n : Int)) (hx : x ∈ litsN g i) : LeanE g n x.toNat ∧ 0 ≤ x ∧ x < g.atoms.length := by
  obtain ⟨h0, h1, h2⟩ := mem_ofR.1 hi
  obtain ⟨k, rfl⟩ := Int.eq_ofNat_of_zero_le h0
  simp only [Int.toNat_natCast] at h1 h2
  have hx' : x ∈ litsN g (k : Int) := hx
  rw [litsN_at h1] at hx'
  have hm := List.getElem_mem h1
  refine ⟨mem_edg.2 ⟨_, hm, by rw [h2]; rfl, x, List.mem_append.1 hx', rfl⟩, ?_⟩
  rcases List.mem_append.1 hx' with hx | hx
  · exact (h.pos _ hm).1 x hx
  · exact (h.neg _ hm).1 x hx
theorem lean_has {g : Prog} (h : RightG g) {n y : Nat} (he : LeanE g n y) : ∃ i ∈ ofR g (n : Int), ∃ x ∈ litsN g i, x.toNat = y := by
  obtain ⟨r, hr, h1, x, hx, h2⟩ := mem_edg.1 he
  obtain ⟨k, hk, rfl⟩ := List.mem_iff_getElem.1 hr
  refine ⟨(k : Int), mem_ofR.2 ⟨by omega, by simpa using hk, ?_⟩, x, ?_, h2⟩
  · have := (h.head _ hr).1
    simp only [Int.toNat_natCast]; omega
  · rw [litsN_at hk]; exact List.mem_append.2 hx
theorem lean_lt {g : Prog} (h : RightG g) : ∀ x y, LeanE g x y → x < g.atoms.length → y < g.atoms.length := fun _ _ e _ => (edg_rng h _ e).2
theorem visto_lt {E : Nat → Nat → Prop} {n N : Nat} {D : Nat → Prop} {s t : List Nat} (h : VisTo E n D s t) (hs : ∀ x ∈ s, x < N) (hn : n < N) (hE : ∀ x y, E x y → x < N → y < N) : ∀ x ∈ t, x < N := fun x hx => by
  rcases h.snd x hx with h1 | h1
  · exact hs x h1
  · exact h1.closed (P := fun x => x < N) (fun x y hx e => hE x y e hx) hn
def markL (N : Nat) (s : List Nat) : List Int := (List.range N).map fun k => if k ∈ s then (1 : Int) else 0
theorem markL_len (N : Nat) (s : List Nat) : (markL N s).length = N := by unfold markL; simp
theorem markL_at {N k : Nat} {s : List Nat} (hk : k < (markL N s).length) : (markL N s)[k] = if k ∈ s then (1 : Int) else 0 := by
  have : (markL N s)[k]? = some (if k ∈ s then (1 : Int) else 0) := by
    rw [markL_len] at hk
    unfold markL; simp [hk]
  exact (List.getElem?_eq_some_iff.1 this).2
theorem markL_set {N n : Nat} {s : List Nat} : (markL N s).set n 1 = markL N (s ++ [n]) := by
  apply List.ext_getElem
  · rw [List.length_set, markL_len, markL_len]
  · intro i h1 h2
    rw [List.getElem_set, markL_at, markL_at]
    by_cases e : n = i
    · subst e; simp
    · rw [if_neg e]
      have : (i ∈ s ++ [n]) ↔ i ∈ s := by simp [Ne.symm e]
      by_cases hs : i ∈ s
      · rw [if_pos hs, if_pos (this.2 hs)]
      · rw [if_neg hs, if_neg (fun h => hs (this.1 h))]
theorem take_of {α : Type} {l : List α} {k : Nat} (hk : k < l.length) {x : α} : x ∈ l.take (k + 1) ↔ x ∈ l.take k ∨ x = l[k] := by
  rw [List.take_succ_eq_append_getElem hk, List.mem_append, List.mem_singleton]
theorem litsN_len {g : Prog} (h : RightG g) (i : Int) : (litsN g i).length ≤ g.atoms.length + g.atoms.length := by
  unfold litsN
  rcases e : g.rules[i.toNat]? with _ | r
  · simp
  · have h2 := h.lits r (List.mem_of_getElem? e)
    simp only [Option.map_some, Option.getD_some, List.length_append]; omega

/-! ### mark -/
def markV (bs bg bf : Nat) : Value := .func (.func 62) #[] #[.pointer (some ⟨bs, 0, none⟩), .pointer (some ⟨bg, 0, none⟩), .pointer (some ⟨bf, 0, none⟩)]
structure MkM (w : World) (g : Prog) (bs bg bf Nb : Nat) (aa : Option Addr) (ac : Nat) (ra : Option Addr) (rc : Nat) : Prop where
  cs : w.cell? ⟨bs, 0, none⟩ = some (.slice (some ⟨Nb, 0, none⟩) g.atoms.length g.atoms.length)
  ls : bs < w.heap.size
  ns : bs ≠ Nb
  c0 : w.cell? ⟨bg, 0, none⟩ = some (.slice aa g.atoms.length ac)
  c1 : w.cell? ⟨bg, 1, none⟩ = some (.slice ra g.rules.length rc)
  lg : bg < w.heap.size
  ng : bg ≠ Nb
  cf : w.cell? ⟨bf, 0, none⟩ = some (markV bs bg bf)
  lf : bf < w.heap.size
  nf : bf ≠ Nb
  ln : Nb < w.heap.size
  hA : Seq (seqE cellE) (fun b => b ≠ Nb) w (.slice aa g.atoms.length ac) g.atoms
  hR : Seq ruleE (fun b => b ≠ Nb) w (.slice ra g.rules.length rc) g.rules
theorem MkM.grow {w w' : World} {g : Prog} {bs bg bf Nb : Nat} {aa ra : Option Addr} {ac rc : Nat} (h : MkM w g bs bg bf Nb aa ac ra rc) (hw : w.grownBy w' (some Nb)) : MkM w' g bs bg bf Nb aa ac ra rc :=
  ⟨gr_cell hw h.cs h.ns, Nat.lt_of_lt_of_le h.ls hw.size, h.ns, gr_cell hw h.c0 h.ng, gr_cell hw h.c1 h.ng, Nat.lt_of_lt_of_le h.lg hw.size, h.ng, gr_cell hw h.cf h.nf, Nat.lt_of_lt_of_le h.lf hw.size, h.nf, Nat.lt_of_lt_of_le h.ln hw.size,
    gr_seq h.hA hw fun _ hb e => hb (Option.some.inj e).symm, gr_seq h.hR hw fun _ hb e => hb (Option.some.inj e).symm⟩
theorem pair_seq {w : World} {pa na : Option Addr} {pc nc n m : Nat} {p q : List Int} {S : Nat → Prop} (hp : Seq intE S w (.slice pa n pc) p) (hq : Seq intE S w (.slice na m nc) q) :
    Seq (seqE intE) (fun _ => True) (w.alloc (.cells #[.slice pa n pc, .slice na m nc] 36)) (.slice (some ⟨w.heap.size, 0, none⟩) 2 2) [p, q] := by
  refine Row.seq (vs := [.slice pa n pc, .slice na m nc]) (Row.new w [_, _] _ rfl) rfl (Nat.le_refl _) (by unfold maxLen; omega) (by simp) True.intro fun k x hk => ?_
  have hB : Below w.heap.size w (w.alloc (.cells #[.slice pa n pc, .slice na m nc] 36)) := Seq.way
  match k, hk with
  | 0, hk =>
    simp at hk; subst hk
    exact ⟨_, ⟨_, rfl, (hp.at hB).mono (fun _ _ _ => True.intro) fun _ _ _ => rfl⟩, fun j hj => by
      obtain rfl : j = 0 := by have : j < 1 := hj; omega
      rfl⟩
  | 1, hk =>
    simp at hk; subst hk
    exact ⟨_, ⟨_, rfl, (hq.at hB).mono (fun _ _ _ => True.intro) fun _ _ _ => rfl⟩, fun j hj => by
      obtain rfl : j = 0 := by have : j < 1 := hj; omega
      rfl⟩
  | k + 2, hk => simp at hk

set_option maxHeartbeats 6400000 in
set_option maxRecDepth 100000 in
theorem mark_spec {g : Prog} (hR : RightG g) (hN : g.atoms.length ≤ 100000) (hM : g.rules.length ≤ 100000) : ∀ (m : Nat) {w : World} {n : Nat} {s : List Nat} {bs bg bf Nb ac rc : Nat} {aa ra : Option Addr} (_ : n < g.atoms.length) (_ : s.Nodup) (_ : ∀ x ∈ s, x < g.atoms.length) (_ : g.atoms.length ≤ s.length + m)
    (_ : RowI 3 w Nb (markL g.atoms.length s)) (_ : MkM w g bs bg bf Nb aa ac ra rc),
    Calls Tryz.prog 62 #[.int .i64 n, .pointer (some ⟨bs, 0, none⟩), .pointer (some ⟨bg, 0, none⟩), .pointer (some ⟨bf, 0, none⟩)] w
      (fun e w' => e = .returned (.tuple #[]) ∧ w.grownBy w' (some Nb) ∧ ∃ t, Vis (LeanE g) n s t ∧ RowI 3 w' Nb (markL g.atoms.length t)) := by
  intro m
  induction m with
  | zero =>
    intro w n s bs bg bf Nb ac rc aa ra hn hnd hlt hm hrow hbm
    have hin : n ∈ s := by
      apply Classical.byContradiction
      intro h
      have := nodup_lt (s := n :: s) (N := g.atoms.length) (List.nodup_cons.2 ⟨h, hnd⟩) (fun x hx => by
        rcases List.mem_cons.1 hx with rfl | hx
        · exact hn
        · exact hlt x hx)
      simp at this; omega
    have hc := hrow.cell (j := n) (by rw [markL_len]; exact hn)
    rw [markL_at, if_pos hin] at hc
    have cs := hbm.cs
    have ls := hbm.ls
    have hnI : (n : Int) < (g.atoms.length : Int) := by omega
    have hn0 : (0 : Int) ≤ (n : Int) := by omega
    have HM := Lib.hid hrow
    have HV := Lib.hid (Vis.old (E := LeanE g) hnd hin)
    clear hrow hbm hin hlt hnd hm
    go_enter Tryz.func62, Tryz.ntmps62
    go_wp2_with fail
    ((try simp only [Exit.inBlock, Exit.then]); refine bodyPost_ret (results_none rfl _ _ _) rfl ?_)
    exact ⟨rfl, gr_refl _ _, s, HV.out, HM.out⟩
  | succ m ih =>
    intro w n s bs bg bf Nb ac rc aa ra hn hnd hlt hm hrow hbm
    have hc := hrow.cell (j := n) (by rw [markL_len]; exact hn)
    have cs := hbm.cs
    have ls := hbm.ls
    have hnI : (n : Int) < (g.atoms.length : Int) := by omega
    have hn0 : (0 : Int) ≤ (n : Int) := by omega
    have HM := Lib.hid hrow
    by_cases hin : n ∈ s
    · rw [markL_at, if_pos hin] at hc
      have HV := Lib.hid (Vis.old (E := LeanE g) hnd hin)
      clear hrow hbm hin hlt hnd hm
      go_enter Tryz.func62, Tryz.ntmps62
      go_wp2_with fail
      ((try simp only [Exit.inBlock, Exit.then]); refine bodyPost_ret (results_none rfl _ _ _) rfl ?_)
      exact ⟨rfl, gr_refl _ _, s, HV.out, HM.out⟩
    · rw [markL_at, if_neg hin] at hc
      have HV := Lib.hid (VisTo.start (E := LeanE g) hnd hin)
      have Hlt := Lib.hid hlt
      have Hm := Lib.hid hm
      have HBM := Lib.hid hbm
      have hfz := hrow.frozen n
      have hln := hbm.ln
      obtain ⟨W, hW⟩ : ∃ W, W = w.setCell ⟨Nb, n, none⟩ (.int .i64 1) := ⟨_, rfl⟩
      have G1 := Lib.hid (show w.grownBy W (some Nb) by rw [hW]; exact gr_set _ _ _ _)
      have HM1 := Lib.hid (show RowI 3 W Nb (markL g.atoms.length (s ++ [n])) by
        rw [hW, ← markL_set]; exact hrow.set n 1)
      have HW := Lib.hid hW
      clear hrow hbm hin hlt hnd hm hW
      go_enter Tryz.func62, Tryz.ntmps62
      go_upto_region 2 with fail
      rw [← HW.out]
      have KW := Lib.hid (HBM.out.grow G1.out)
      obtain ⟨-, -, -, c0, c1, lg, -, -, -, -, lN, hA, hRR⟩ := KW.out
      have HP := Lib.hid (show ProgV (fun b => b ≠ Nb) W (.agg #[.slice aa g.atoms.length ac, .slice ra g.rules.length rc]) g from ⟨_, _, rfl, hA, hRR⟩)
      clear hA hRR cs hc ls
      go_wp2_with fail
      refine (OfP_spec (a := (n : Int)) HP.out (by omega)).mono ?_
      rintro e w2 ⟨r2, rfl, hb2, hr2⟩
      have B2 := Lib.hid hb2
      have HO2 := Lib.hid hr2
      have hol := ofR_len g (n : Int)
      have HOm := Lib.hid (fun (i : Int) (h : i ∈ ofR g (n : Int)) (x : Int) (hx : x ∈ litsN g i) => lean_of hR h hx)
      have HOi := Lib.hid (fun (i : Int) (h : i ∈ ofR g (n : Int)) => mem_ofR.1 h)
      have HOh := Lib.hid (fun (y : Nat) (h : LeanE g n y) => lean_has hR h)
      obtain ⟨O, hO⟩ : ∃ O, O = ofR g (n : Int) := ⟨_, rfl⟩
      rw [← hO] at hr2 HO2 hol HOm HOi HOh
      obtain ⟨oa, oc, rfl⟩ := hr2.shape
      have G2 := Lib.hid (gr_of G1.out (hb2.mono (G1.out.size)))
      have HM2 := Lib.hid (HM1.out.below hb2 lN)
      clear hb2 hr2 hO c0 c1 lg
      go_wp2_with fail
      go_loopw [21] (fun i wr => ∃ (k : Nat) (t : List Nat), k ≤ O.length ∧ i = .int .i64 k ∧ Hid (VisTo (LeanE g) n (fun y => ∃ i ∈ O.take k, ∃ x ∈ litsN g i, x.toNat = y) s t) ∧ Hid (RowI 3 wr Nb (markL g.atoms.length t)) ∧ Hid (w2.grownBy wr (some Nb))) (fun i _ => O.length - (intOf i).toNat)
      case atStart => exact ⟨0, s ++ [n], Nat.zero_le _, rfl, Lib.hid (HV.out.skip fun z ⟨i, hi, _⟩ => by simp at hi), HM2, Lib.hid (gr_refl _ _)⟩
      case round =>
        obtain ⟨k, t, hk, rfl, hV, hMt, hgr⟩ := hrel
        have GW := Lib.hid (gr_trans G2.out hgr.out)
        by_cases hkl : k < O.length
        · obtain ⟨_, _, ee, -, -, -, -, x5⟩ := gr_seq HO2.out hgr.out (fun b hb e => by
            have h8 : W.heap.size ≤ b := hb
            simp at e; omega)
          simp only [Value.slice.injEq, true_and] at ee
          obtain ⟨rfl, rfl⟩ := ee
          obtain ⟨b1, o1, rfl, -, l1, d0, -⟩ := x5.int hkl
          have hOk := List.getElem_mem hkl
          obtain ⟨hi0, hi1, -⟩ := HOi.out _ hOk
          have hst := Lib.hid (fun (x : Int) => take_of (l := O) hkl (x := x))
          have HLm := Lib.hid (HOm.out _ hOk)
          obtain ⟨i, hi⟩ : ∃ i, i = O[k] := ⟨_, rfl⟩
          rw [← hi] at d0 hi0 hi1 hst HLm
          obtain ⟨j, rfl⟩ := Int.eq_ofNat_of_zero_le hi0
          simp only [Int.toNat_natCast] at hi1
          have hlj := Lib.hid (litsN_at (g := g) hi1)
          have hll := litsN_len hR (j : Int)
          obtain ⟨cs, ls, ns, c0, c1, lg, ng, cf, lf, nf, ln, hA, hRR⟩ := (HBM.out.grow GW.out)
          obtain ⟨_, _, ee, -, -, -, -, x6⟩ := hRR
          simp only [Value.slice.injEq, true_and] at ee
          obtain ⟨rfl, rfl⟩ := ee
          obtain ⟨b, off, pa, pc, na, nc, rfl, -, hb, e0, e1, e2, -, hp, hq⟩ := x6.rule hi1
          have HPQ := Lib.hid (pair_seq hp hq)
          obtain ⟨r, hr⟩ : ∃ r, r = g.rules[j] := ⟨_, rfl⟩
          rw [← hr] at e0 e1 e2 hlj HPQ
          obtain ⟨L, hL⟩ : ∃ L, L = litsN g (j : Int) := ⟨_, rfl⟩
          rw [← hL] at hlj hll HLm
          have HL := Lib.hid hL
          have hLl : L.length ≤ 1000000 := by omega
          have hfl := Lib.hid (show [r.pos, r.neg].flatten = L by rw [hlj.out]; simp)
          have hkI : (k : Int) < (O.length : Int) := by omega
          have hk0 : (0 : Int) ≤ (k : Int) := by omega
          have hjI : (j : Int) < (g.rules.length : Int) := by omega
          have hj0 : (0 : Int) ≤ (j : Int) := by omega
          have hjt : ((j : Int)).toNat = j := Int.toNat_natCast j
          clear x5 x6 hp hq hA hi hr hL hOk hi0 e0 cs ls cf lf
          go_upto_region 5 with fail
          have Hkeep := fun {Wk : World} (hW : Below wr.heap.size wr Wk) => Lib.hid (show Wk.cell? ⟨bg, 1, none⟩ = some (.slice (some ⟨b, off, none⟩) g.rules.length rc) ∧ Wk.cell? ⟨b, off + j * 3 + 1, none⟩ = some (.slice pa r.pos.length pc) ∧ Wk.cell? ⟨b, off + j * 3 + 2, none⟩ = some (.slice na r.neg.length nc) from ⟨(hW.cell (p := ⟨bg, 1, none⟩) lg).trans c1, (hW.cell (p := ⟨b, off + j * 3 + 1, none⟩) hb).trans e1, (hW.cell (p := ⟨b, off + j * 3 + 2, none⟩) hb).trans e2⟩)
          (try simp only [List.append_eq, List.cons_append, List.nil_append])
          refine wp_region_noPanic ?_
          refine wp_region_held_drew (S := fun w' => w'.cell? ⟨bg, 1, none⟩ = some (.slice (some ⟨b, off, none⟩) g.rules.length rc) ∧ w'.cell? ⟨b, off + j * 3 + 1, none⟩ = some (.slice pa r.pos.length pc) ∧ w'.cell? ⟨b, off + j * 3 + 2, none⟩ = some (.slice na r.neg.length nc)) (by kernel_rfl) ?_ (fun hHeld => ?_)
          · exact (Hkeep (Below.drew (Below.refl _ _))).out
          refine wpAnyH_take1 (i := 0) (oi := _) (v := ?_) (by kernel_rfl) rfl (by kernel_rfl) (fun _ _ _ h => h) (Or.inl ⟨by rfl, ?_⟩) (by assumption) ?_
          rotate_left 1
          · intro w hSw; (try dsimp only at hSw); go_simp; (with_reducible rfl)
          (try simp only [Act.put, List.getElem_toArray, List.getElem_cons_zero, List.setIfInBounds_toArray, List.set_cons_zero, List.set_cons_succ])
          refine wpAnyH_take1 (i := 1) (oi := _) (v := ?_) (by kernel_rfl) rfl (by kernel_rfl) (fun _ _ _ h => h) (Or.inl ⟨by rfl, ?_⟩) (by assumption) ?_
          rotate_left 1
          · intro w hSw; (try dsimp only at hSw); go_simp; (with_reducible rfl)
          (try simp only [Act.put, List.getElem_toArray, List.getElem_cons_zero, List.getElem_cons_succ, List.setIfInBounds_toArray, List.set_cons_zero, List.set_cons_succ])
          refine wpAnyH_take1 (i := 2) (oi := _) (v := ?_) (by kernel_rfl) rfl (by kernel_rfl) (fun _ _ _ h => h) (Or.inl ⟨by rfl, ?_⟩) (by assumption) ?_
          rotate_left 1
          · intro w hSw; (try dsimp only at hSw); go_simp; (with_reducible rfl)
          (try simp only [Act.put, List.getElem_toArray, List.getElem_cons_zero, List.getElem_cons_succ, List.setIfInBounds_toArray, List.set_cons_zero, List.set_cons_succ])
          refine wpAnyH_take1 (i := 3) (oi := _) (v := ?_) (by kernel_rfl) rfl (by kernel_rfl) (fun _ _ _ h => h) (Or.inl ⟨by rfl, ?_⟩) (by assumption) ?_
          rotate_left 1
          · intro w hSw; (try dsimp only at hSw); go_simp; (with_reducible rfl)
          (try simp only [Act.put, List.getElem_toArray, List.getElem_cons_zero, List.getElem_cons_succ, List.setIfInBounds_toArray, List.set_cons_zero, List.set_cons_succ])
          refine wpAnyH_take1 (i := 4) (oi := _) (v := ?_) (by kernel_rfl) rfl (by kernel_rfl) (fun _ _ _ h => h) (Or.inl ⟨by rfl, ?_⟩) (by assumption) ?_
          rotate_left 1
          · intro w hSw; (try dsimp only at hSw); go_simp; (with_reducible rfl)
          (try simp only [Act.put, List.getElem_toArray, List.getElem_cons_zero, List.getElem_cons_succ, List.setIfInBounds_toArray, List.set_cons_zero, List.set_cons_succ])
          refine wpAnyH_take1 (i := 5) (oi := _) (v := ?_) (by kernel_rfl) rfl (by kernel_rfl) (fun _ _ _ h => h) (Or.inl ⟨by rfl, ?_⟩) (by assumption) ?_
          rotate_left 1
          · intro w hSw; (try dsimp only at hSw); go_simp; (with_reducible rfl)
          (try simp only [Act.put, List.getElem_toArray, List.getElem_cons_zero, List.getElem_cons_succ, List.setIfInBounds_toArray, List.set_cons_zero, List.set_cons_succ])
          refine wpAnyH_take1 (i := 6) (oi := _) (v := ?_) (by kernel_rfl) rfl (by kernel_rfl) (fun _ _ _ h => h) (Or.inl ⟨by rfl, ?_⟩) (by assumption) ?_
          rotate_left 1
          · intro w hSw; (try dsimp only at hSw); go_simp; (with_reducible rfl)
          (try simp only [Act.put, List.getElem_toArray, List.getElem_cons_zero, List.getElem_cons_succ, List.setIfInBounds_toArray, List.set_cons_zero, List.set_cons_succ])
          refine wpAnyH_take1 (i := 7) (oi := _) (v := ?_) (by kernel_rfl) rfl (by kernel_rfl) (fun _ _ _ h => h) (Or.inl ⟨by rfl, ?_⟩) (by assumption) ?_
          rotate_left 1
          · intro w hSw; (try dsimp only at hSw); go_simp; (with_reducible rfl)
          (try simp only [Act.put, List.getElem_toArray, List.getElem_cons_zero, List.getElem_cons_succ, List.setIfInBounds_toArray, List.set_cons_zero, List.set_cons_succ])
          refine wpAnyH_take1 (i := 8) (oi := _) (v := ?_) (by kernel_rfl) rfl (by kernel_rfl) (fun _ _ _ h => h) (Or.inl ⟨by rfl, ?_⟩) (by assumption) ?_
          rotate_left 1
          · intro w hSw; (try dsimp only at hSw); go_simp; (with_reducible rfl)
          (try simp only [Act.put, List.getElem_toArray, List.getElem_cons_zero, List.getElem_cons_succ, List.setIfInBounds_toArray, List.set_cons_zero, List.set_cons_succ])
          refine wpAnyH_take1 (i := 9) (oi := _) (v := ?_) (by kernel_rfl) rfl (by kernel_rfl) (fun _ _ _ h => h) (Or.inl ⟨by rfl, ?_⟩) (by assumption) ?_
          rotate_left 1
          · intro w hSw; (try dsimp only at hSw); go_simp; (with_reducible rfl)
          (try simp only [Act.put, List.getElem_toArray, List.getElem_cons_zero, List.getElem_cons_succ, List.setIfInBounds_toArray, List.set_cons_zero, List.set_cons_succ])
          refine wpAnyH_take1 (i := 10) (oi := _) (v := ?_) (by kernel_rfl) rfl (by kernel_rfl) (fun _ _ _ h => h) (Or.inl ⟨by rfl, ?_⟩) (by assumption) ?_
          rotate_left 1
          · intro w hSw; (try dsimp only at hSw); go_simp; (with_reducible rfl)
          (try simp only [Act.put, List.getElem_toArray, List.getElem_cons_zero, List.getElem_cons_succ, List.setIfInBounds_toArray, List.set_cons_zero, List.set_cons_succ])
          refine wpAnyH_take1 (i := 11) (oi := _) (v := ?_) (by kernel_rfl) rfl (by kernel_rfl) (fun _ _ _ h => h) (Or.inl ⟨by rfl, ?_⟩) (by assumption) ?_
          rotate_left 1
          · intro w hSw; (try dsimp only at hSw); go_simp; (with_reducible rfl)
          (try simp only [Act.put, List.getElem_toArray, List.getElem_cons_zero, List.getElem_cons_succ, List.setIfInBounds_toArray, List.set_cons_zero, List.set_cons_succ])
          refine wpAnyH_take1 (i := 15) (oi := _) (v := ?_) (by kernel_rfl) rfl (by kernel_rfl) (fun _ _ _ h => h) (Or.inl ⟨by rfl, ?_⟩) (by assumption) ?_
          rotate_left 1
          · intro w hSw; (try dsimp only at hSw); go_simp; (with_reducible rfl)
          (try simp only [Act.put, List.getElem_toArray, List.getElem_cons_zero, List.getElem_cons_succ, List.setIfInBounds_toArray, List.set_cons_zero, List.set_cons_succ])
          refine wpAnyH_one (i := 12) (by kernel_rfl) rfl (by rfl) fun K hK => ?_
          go_simp
          (try dsimp only)
          clear hHeld
          refine hK.out _ _ (Hkeep Seq.way).out fun hHeld => ?_
          clear hK K
          (try simp only [Act.put, List.getElem_toArray, List.getElem_cons_zero, List.getElem_cons_succ, List.setIfInBounds_toArray, List.set_cons_zero, List.set_cons_succ])
          refine wpAnyH_one (i := 13) (by kernel_rfl) rfl (by rfl) fun K hK => ?_
          go_simp
          refine ((concatI_spec (HPQ.out.at Seq.way) (by rw [hfl.out]; exact hLl) (by simp))).mono ?_
          rintro e y1 ⟨_, rfl, hy1, hc1⟩
          have HY1 := below_step hy1 (Seq.way : Below wr.heap.size wr _)
          have zy1 := HY1.size
          (try dsimp only)
          clear hHeld
          refine hK.out _ _ (Hkeep HY1).out fun hHeld => ?_
          clear hK K
          (try simp only [Act.put, List.getElem_toArray, List.getElem_cons_zero, List.getElem_cons_succ, List.setIfInBounds_toArray, List.set_cons_zero, List.set_cons_succ])
          rw [hfl.out] at hc1
          have HC := Lib.hid (hc1.mono (T := fun b => wr.heap.size ≤ b) (fun b h _ => by
            have h8 : (wr.alloc _).heap.size ≤ b := h
            simp at h8; omega) fun _ _ _ => rfl)
          obtain ⟨ca, cb, rfl⟩ := hc1.shape
          clear hc1
          refine wpAnyH_take1 (i := 14) (oi := _) (v := ?_) (by kernel_rfl) rfl (by kernel_rfl) (fun _ _ _ h => h) (Or.inl ⟨by rfl, ?_⟩) (by assumption) ?_
          rotate_left 1
          · intro w hSw; (try dsimp only at hSw); go_simp; (with_reducible rfl)
          (try simp only [Act.put, List.getElem_toArray, List.getElem_cons_zero, List.getElem_cons_succ, List.setIfInBounds_toArray, List.set_cons_zero, List.set_cons_succ])
          refine wpAnyH_done (by kernel_rfl) ?_ _
          refine NoPanic.normal ?_
          have G5 := Lib.hid (gr_of (gr_refl wr (some Nb)) HY1)
          have HM5 := Lib.hid (hMt.out.below HY1 ln)
          have GW5 := Lib.hid (gr_trans GW.out G5.out)
          have hV0 := Lib.hid (hV.out.skip (D' := fun y => (∃ i ∈ O.take k, ∃ x ∈ litsN g i, x.toNat = y) ∨ ∃ x ∈ L.take 0, x.toNat = y) fun z hz => by
            rcases hz with hz | ⟨x, hx, _⟩
            · exact hz
            · simp at hx)
          clear c0 c1 e1 e2 d0 lg
          go_wp2_with fail
          go_loopw [40] (fun i wz => ∃ (k2 : Nat) (t2 : List Nat), k2 ≤ L.length ∧ i = .int .i64 k2 ∧ Hid (VisTo (LeanE g) n (fun y => (∃ i ∈ O.take k, ∃ x ∈ litsN g i, x.toNat = y) ∨ ∃ x ∈ L.take k2, x.toNat = y) s t2) ∧ Hid (RowI 3 wz Nb (markL g.atoms.length t2)) ∧ Hid (y1.grownBy wz (some Nb))) (fun i _ => L.length - (intOf i).toNat)
          case atStart => exact ⟨0, t, Nat.zero_le _, rfl, hV0, HM5, Lib.hid (gr_refl _ _)⟩
          case round =>
            obtain ⟨wx, rfl⟩ : ∃ wx, wx = wr := ⟨_, rfl⟩
            obtain ⟨k2, t2, hk2, rfl, hV2, hMt2, hgr2⟩ := hrel
            have GZ := Lib.hid (gr_trans GW5.out hgr2.out)
            by_cases hkl2 : k2 < L.length
            · obtain ⟨_, _, ee, -, -, -, -, x5⟩ := gr_seq HC.out hgr2.out (fun b hb e => by
                simp at e; omega)
              simp only [Value.slice.injEq, true_and] at ee
              obtain ⟨rfl, rfl⟩ := ee
              obtain ⟨b1, o1, rfl, -, l1, d0, -⟩ := x5.int hkl2
              have hLk := List.getElem_mem hkl2
              obtain ⟨he1, he2, he3⟩ := HLm.out _ hLk
              have hst2 := Lib.hid (fun (x : Int) => take_of (l := L) hkl2 (x := x))
              obtain ⟨x, hx⟩ : ∃ x, x = L[k2] := ⟨_, rfl⟩
              rw [← hx] at d0 he1 he2 he3 hst2
              obtain ⟨q, rfl⟩ := Int.eq_ofNat_of_zero_le he2
              simp only [Int.toNat_natCast] at he1
              have hqN : q < g.atoms.length := by omega
              obtain ⟨-, -, -, -, -, -, -, cf, lf, nf, -, -, -⟩ := (HBM.out.grow GZ.out)
              have HBz := Lib.hid (HBM.out.grow GZ.out)
              have HE := Lib.hid he1
              unfold markV at cf
              have hkI2 : (k2 : Int) < (L.length : Int) := by omega
              have hk02 : (0 : Int) ≤ (k2 : Int) := by omega
              clear x5 hx hLk he1 he2 he3
              go_wp2_with fail
              refine (ih (n := q) (s := t2) hqN hV2.out.nd (visto_lt hV2.out Hlt.out hn (lean_lt hR)) (by have h3 := hV2.out.len; have h4 := Hm.out; omega) hMt2.out HBz.out).mono ?_
              rintro e z1 ⟨rfl, hg1, t', hv1, hm1⟩
              have HG := Lib.hid (gr_trans hgr2.out hg1)
              have HM6 := Lib.hid hm1
              have HV6 := Lib.hid ((hV2.out.step HE.out hv1).skip (D' := fun y => (∃ i ∈ O.take k, ∃ x ∈ litsN g i, x.toNat = y) ∨ ∃ x ∈ L.take (k2 + 1), x.toNat = y) fun z hz => by
                rcases hz with hz | ⟨x, hx, hz⟩
                · exact .inl (.inl hz)
                · rcases (hst2.out x).1 hx with hx | rfl
                  · exact .inl (.inr ⟨x, hx, hz⟩)
                  · exact .inr hz.symm)
              clear hg1 hv1 hm1
              go_wp2_with fail
              go_roundw
              case rel => exact ⟨k2 + 1, t', hkl2, by go_num, HV6, HM6, HG⟩
              case measure => simp [intOf]; omega
            · obtain rfl : k2 = L.length := by omega
              have hkI2 : ¬ (L.length : Int) < (L.length : Int) := by omega
              have hV7 := Lib.hid (hV2.out.skip (D' := fun y => ∃ i ∈ O.take (k + 1), ∃ x ∈ litsN g i, x.toNat = y) fun z ⟨i, hi, x, hx, hz⟩ => by
                rcases (hst.out i).1 hi with hi | rfl
                · exact .inl ⟨i, hi, x, hx, hz⟩
                · rw [← HL.out] at hx
                  exact .inr ⟨x, by rw [List.take_length]; exact hx, hz⟩)
              have G8 := Lib.hid (gr_trans (gr_trans hgr.out G5.out) hgr2.out)
              clear hkl2
              go_wp2_with fail
              go_roundw
              case rel => exact ⟨k + 1, t2, hkl, by go_num, hV7, hMt2, G8⟩
              case measure => simp [intOf]; omega
        · obtain rfl : k = O.length := by omega
          have hkI : ¬ (O.length : Int) < (O.length : Int) := by omega
          have hfin := Lib.hid (hV.out.fin fun y hy => by
            obtain ⟨i, hi, x, hx, hz⟩ := HOh.out y hy
            exact ⟨i, by rw [List.take_length]; exact hi, x, hx, hz⟩)
          clear hkl
          go_wp2_with fail
          go_end0
          exact ⟨rfl, GW.out, t, hfin.out, hMt.out⟩
end Go.Proofs.YtaedgpcmkagpeaaGreat
