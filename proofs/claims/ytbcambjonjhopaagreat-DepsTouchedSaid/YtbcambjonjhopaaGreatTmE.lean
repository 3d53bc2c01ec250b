/-
  R01: variables, ground terms, parts, depth.
-/
import Derived.Test.YtbcambjonjhopaaGreatTmD
namespace Go.Proofs.YtbcambjonjhopaaGreat
open Go Go.RowKit

theorem infoSeq : (Tryz.prog.info? 40).map (fun i => (i.zero, i.size, i.bytes)) = some (some (.slice none 0 0), 1, 24) := by kernel_rfl

/-! ### Variables -/
def varsTo (out : List Int) (c : Cell) : List Int := if c.kind = 1 ∧ ¬ c.n ∈ out then out ++ [c.n] else out
def varsL (t : List Cell) : List Int := t.foldl varsTo []
theorem varsL_snoc {t : List Cell} {k : Nat} (hk : k < t.length) : varsL (t.take (k + 1)) = varsTo (varsL (t.take k)) t[k] := by
  unfold varsL
  rw [List.take_succ_eq_append_getElem hk, List.foldl_append]; rfl
theorem varsTo_len (out : List Int) (c : Cell) : (varsTo out c).length ≤ out.length + 1 := by
  unfold varsTo; split <;> simp
theorem foldl_varsTo_len : ∀ (t : List Cell) (out : List Int), (t.foldl varsTo out).length ≤ out.length + t.length
  | [], _ => by simp
  | c :: t, out => by
    have h1 := foldl_varsTo_len t (varsTo out c)
    have h2 := varsTo_len out c
    simp only [List.foldl_cons, List.length_cons]
    omega
theorem varsL_len (t : List Cell) : (varsL t).length ≤ t.length := by
  have := foldl_varsTo_len t []
  simpa [varsL] using this
theorem varsL_mem {t : List Cell} {x : Int} : x ∈ varsL t ↔ ∃ c ∈ t, c.kind = 1 ∧ c.n = x := by
  have key : ∀ (t : List Cell) (out : List Int), x ∈ t.foldl varsTo out ↔ x ∈ out ∨ ∃ c ∈ t, c.kind = 1 ∧ c.n = x := by
    intro t
    induction t with
    | nil => simp
    | cons c t ih =>
      intro out
      rw [List.foldl_cons, ih]
      have h1 : x ∈ varsTo out c ↔ x ∈ out ∨ (c.kind = 1 ∧ c.n = x) := by
        unfold varsTo
        by_cases hc : c.kind = 1 ∧ ¬ c.n ∈ out
        · rw [if_pos hc, List.mem_append, List.mem_singleton]
          constructor
          · rintro (h | h)
            · exact .inl h
            · exact .inr ⟨hc.1, h.symm⟩
          · rintro (h | h)
            · exact .inl h
            · exact .inr h.2.symm
        · rw [if_neg hc]
          constructor
          · exact .inl
          · rintro (h | ⟨h, e⟩)
            · exact h
            · have : c.n ∈ out := by
                apply Classical.byContradiction
                intro hn; exact hc ⟨h, hn⟩
              exact e ▸ this
      rw [h1]
      simp only [List.mem_cons, exists_eq_or_imp, or_assoc]
  have := key t []
  simpa [varsL] using this
theorem varsL_ground (t : List Cell) : groundT t = decide ((varsL t).length = 0) := by
  rw [Bool.eq_iff_iff, decide_eq_true_iff]
  unfold groundT
  rw [List.all_eq_true]
  constructor
  · intro h
    rw [List.length_eq_zero_iff, List.eq_nil_iff_forall_not_mem]
    intro x hx
    obtain ⟨c, hc, hk, -⟩ := varsL_mem.1 hx
    have := h c hc
    simp [hk] at this
  · intro h c hc
    have h0 : varsL t = [] := List.length_eq_zero_iff.1 h
    have : ¬ c.kind = 1 := fun hk => by
      have := varsL_mem.2 ⟨c, hc, hk, rfl⟩
      rw [h0] at this; simp at this
    simp [this]

set_option maxHeartbeats 800000 in
set_option maxRecDepth 100000 in
theorem VarsR_spec {S : Nat → Prop} {w : World} {v : Value} {t : List Cell} (ht : Seq cellE S w v t) (hlen : t.length ≤ 1000000000) :
    Calls Tryz.prog 99 #[v] w (Ret (fun r w' => Seq intE (fun b => w.heap.size ≤ b) w' r (varsL t)) w) := by
  obtain ⟨ao, cap, rfl, h1, h2, h3, h4, h5⟩ := ht
  go_enter Tryz.func99, Tryz.ntmps99
  go_wp2_with fail
  go_loopw [3, 4] (fun o i wr => ∃ k : Nat, k ≤ t.length ∧ i = .int .i64 k ∧ Own intE (fun _ => False) w.heap.size 3 wr o (varsL (t.take k)) ∧ Below w.heap.size w wr) (fun _ i _ => t.length - (intOf i).toNat)
  case atStart =>
    exact ⟨0, Nat.zero_le _, rfl, Own.lit0 rfl (Nat.le_refl _) rfl, Seq.way⟩
  case round =>
    obtain ⟨k, hk, rfl, hown, hbel⟩ := hrel
    have hsz : w.heap.size ≤ wr.heap.size := hbel.size
    have hln := varsL_len (t.take k)
    simp at hln
    by_cases hlt : k < t.length
    · obtain ⟨b, off, rfl, hS, hb, c0, -, c2, ok0, ok2, -⟩ := (h5.below hbel fun _ _ h => h).cell hlt
      have hsn := Lib.hid (varsL_snoc hlt)
      have hsv : Seq intE (fun _ => True) wr _ (varsL (t.take k)) := hown.seq (by omega) fun _ _ _ => trivial
      obtain ⟨p, n, rfl, -⟩ := id hsv
      have Hsv := Lib.hid hsv
      have Hown := Lib.hid hown
      obtain ⟨c, hc⟩ : ∃ c, c = t[k] := ⟨_, rfl⟩
      rw [← hc] at c0 c2 ok2 hsn
      clear hc h5 hown hsv
      have hkl : (k : Int) < (t.length : Int) := by omega
      have hk0 : (0 : Int) ≤ (k : Int) := by omega
      by_cases hkd : c.kind = 1
      · go_wp2_with fail
        refine (InT_spec Hsv.out).mono ?_
        rintro e _ ⟨rfl, rfl⟩
        by_cases hi : c.n ∈ varsL (t.take k)
        · have hi' : decide (c.n ∈ varsL (t.take k)) = true := decide_eq_true hi
          rw [hi']
          have hs' := Lib.hid (show varsL (t.take (k + 1)) = varsL (t.take k) by rw [hsn.out]; unfold varsTo; rw [if_neg (by simp [hi])])
          clear hi' hi
          go_wp2_with fail
          go_roundw
          case rel => exact ⟨k + 1, hlt, by go_num, by rw [hs'.out]; exact Hown.out, hbel⟩
          case measure => simp [intOf]; omega
        · have hi' : decide (c.n ∈ varsL (t.take k)) = false := decide_eq_false hi
          rw [hi']
          have hs' := Lib.hid (show varsL (t.take (k + 1)) = varsL (t.take k) ++ [c.n] by rw [hsn.out]; unfold varsTo; rw [if_pos ⟨hkd, hi⟩])
          clear hi' hi
          go_wp2_with (at_builtin; refine wpList_app_int rfl _ _ 32 rfl Tryz.underlying32 infoInt rfl Hown.out rfl (y := c.n) Seq.way ok2 ?_ ?_ ?_ ?_)
          · go_simp
          · omega
          · exact hsz
          · intro ao cap w' hown' hkept
            have H' := Lib.hid hown'
            have K' := Lib.hid (hbel.trans (Below.trans Seq.way hkept.below))
            clear hown' hkept
            go_wp2_with fail
            go_roundw
            case rel => exact ⟨k + 1, hlt, by go_num, by rw [hs'.out]; simpa using H'.out, K'.out⟩
            case measure => simp [intOf]; omega
      · have hs' := Lib.hid (show varsL (t.take (k + 1)) = varsL (t.take k) by rw [hsn.out]; unfold varsTo; rw [if_neg (by simp [hkd])])
        have hkd' : (c.kind == 1) = false := by simpa using hkd
        go_wp2_with fail
        go_roundw
        case rel => exact ⟨k + 1, hlt, by go_num, by rw [hs'.out]; exact Hown.out, hbel⟩
        case measure => simp [intOf]; omega
    · obtain rfl : k = t.length := by omega
      go_wp2_with fail
      go_ret
      refine ⟨_, rfl, hbel, ?_⟩
      rw [List.take_length] at hown hln
      exact hown.seq (by omega) fun b _ hb => hb.elim False.elim id

theorem GroundR_spec {S : Nat → Prop} {w : World} {v : Value} {t : List Cell} (ht : Seq cellE S w v t) (hlen : t.length ≤ 1000000000) :
    Calls Tryz.prog 79 #[v] w (RetV (.bool (groundT t)) w) := by
  have Ht := Lib.hid ht
  have hg := Lib.hid (varsL_ground t)
  obtain ⟨ao, cap, rfl, -⟩ := ht
  go_enter Tryz.func79, Tryz.ntmps79
  go_wp2_with fail
  refine (VarsR_spec Ht.out hlen).mono ?_
  rintro e w1 ⟨v1, rfl, hb1, hs1⟩
  obtain ⟨p, n, rfl, -⟩ := hs1
  go_wp2_with fail
  go_ret
  refine ⟨ret_bool ?_, hb1⟩
  rw [hg.out, Bool.eq_iff_iff]
  simp

/-! ### Parts -/
theorem partsC_step {l : List Cell} {k m : Nat} (h : endC 1 l = some m) : partsC (k + 1) l = l.take m :: partsC k (l.drop m) := by
  rw [partsC, h]
theorem partsC_none {l : List Cell} {k : Nat} (h : endC 1 l = none) : partsC k l = [] := by
  cases k with
  | zero => rfl
  | succ k => rw [partsC, h]

set_option maxHeartbeats 1600000 in
set_option maxRecDepth 100000 in
theorem PartsR_spec {S : Nat → Prop} {w : World} {v : Value} {t : List Cell} (ht : Seq cellE S w v t) (hlen : t.length ≤ 1000000000) :
    Calls Tryz.prog 81 #[v] w (Ret (fun r w' => Seq (seqE cellE) (Fr S w) w' r (partsT t)) w) := by
  have Ht := Lib.hid ht
  obtain ⟨ao, cap, rfl, h1, h2, h3, h4, h5⟩ := ht
  go_enter Tryz.func81, Tryz.ntmps81
  cases hcase : t with
  | nil =>
    rw [← hcase]
    have hl0 : t.length = 0 := by rw [hcase]; rfl
    have hpt := Lib.hid (show partsT t = [] by rw [hcase]; rfl)
    clear hcase
    go_wp2_with fail
    go_ret
    refine ⟨_, rfl, Seq.way, ?_⟩
    rw [hpt.out]
    exact (Own.lit0 (S := fun _ => False) (e := 40) (w := w) rfl (Nat.le_refl _) rfl).seq (by simp) fun b _ hb => hb.elim False.elim .inr
  | cons c l =>
    rw [← hcase]
    have hl0 : 0 < t.length := by rw [hcase]; simp
    obtain ⟨b, off, rfl, hS, hb, c0, -, c2, ok0, ok2, -⟩ := h5.cell hl0
    have ht0 : t[0] = c := by simp [hcase]
    rw [ht0] at c0 c2 ok0 ok2
    simp only [Nat.zero_mul, Nat.add_zero] at c0 c2
    have hpt0 : partsT t = partsC (arity c) l := by rw [hcase]; rfl
    have hd1 := Lib.hid (show t.drop 1 = l by rw [hcase]; rfl)
    have hln : ((t.length : Int) == 0) = false := by rw [beq_eq_false_iff_ne]; omega
    have hlen0 : (0 : Int) < (t.length : Int) := by omega
    clear hcase
    by_cases hk : c.kind = 3
    · have hk' : (c.kind != 3) = false := by simp [hk]
      have hpt := Lib.hid hpt0
      clear hpt0 ht0
      go_wp2_with fail
      have HtB := Lib.hid (Ht.out.bnd)
      have har := Lib.hid (show arity c = c.n.toNat by unfold arity; rw [if_pos hk])
      obtain ⟨N, hN⟩ : ∃ N, N = arity c := ⟨_, rfl⟩
      rw [← hN] at hpt har
      clear hN hk' hk c0 ok0
      go_loopw [3, 4, 5] (fun o at_ i wr => ∃ (k p : Nat) (out : List (List Cell)), i = .int .i64 k ∧ at_ = .int .i64 p ∧ 1 ≤ p ∧ p ≤ t.length ∧ k ≤ N ∧ k ≤ p ∧ Hid (out.length = k) ∧ Hid (partsT t = out ++ partsC (N - k) (t.drop p)) ∧
        Own (seqE cellE) (fun b => S b ∧ b < w.heap.size) w.heap.size 40 wr o out ∧ Below w.heap.size w wr) (fun _ _ i _ => N - (intOf i).toNat)
      case atStart =>
        exact ⟨0, 1, [], rfl, rfl, Nat.le_refl _, hl0, Nat.zero_le _, by omega, Lib.hid rfl, Lib.hid (by rw [hpt.out, hd1.out]; rfl), Own.lit0 rfl (Nat.le_refl _) rfl, Seq.way⟩
      case round =>
        obtain ⟨k, p, out, rfl, rfl, hp1, hp2, hka, hkp, hol, hinv, hown, hbr⟩ := hrel
        have hzr := hbr.size
        have e0 : wr.cell? ⟨b, off + 2, none⟩ = _ := (hbr.cell (p := ⟨b, off + 2, none⟩) hb).trans c2
        obtain ⟨oa, oc, rfl, -, -⟩ := hown.shape
        by_cases hlt : (k : Int) < c.n
        · go_wp2_with fail
          refine (End_spec (Ht.out.at hbr) hp2).mono ?_
          rintro e w1 ⟨rfl, hb1⟩
          have hb1' := below_step hb1 hbr
          have hown1 := hown.move hb1
          have hz1 := hb1'.size
          cases hE : endC 1 (t.drop p) with
          | none =>
            have hz : endZ t p = -1 := by unfold endZ endO; rw [hE]; rfl
            have hfin := Lib.hid (show partsT t = out by rw [hinv.out, partsC_none hE, List.append_nil])
            rw [hz]
            clear hz hE
            go_wp2_with fail
            go_ret
            refine ⟨_, rfl, hb1', ?_⟩
            rw [hfin.out]
            exact hown1.seq (by have := hol.out; omega) fun b _ hb => hb.imp (·.1) id
          | some m =>
            have hm := endC_le hE
            rw [List.length_drop] at hm
            have hz : endZ t p = ((p + m : Nat) : Int) := by unfold endZ endO; rw [hE]; rfl
            have hst := Lib.hid (show partsT t = (out ++ [(t.take (p + m)).drop p]) ++ partsC (N - (k + 1)) (t.drop (p + m)) by
              rw [hinv.out, show N - k = (N - (k + 1)) + 1 by have := har.out; omega, partsC_step hE, List.drop_drop, List.drop_take, Nat.add_sub_cancel_left, List.append_assoc]
              rfl)
            have hif : (if cap = p then (some ⟨b, off, none⟩ : Option Addr) else some ⟨b, off + p * 3, none⟩) = some ⟨b, off + p * 3, none⟩ := by rw [if_neg (by omega)]
            have hnn : ¬ ((p + m : Nat) : Int) < 0 := by omega
            have Hown1 := Lib.hid hown1
            have Hb1 := Lib.hid hb1'
            rw [hz]
            clear hz hE hinv hown hown1 e0 hb1'
            have hnn' : decide ((p : Int) + (m : Int) < 0) = false := decide_eq_false (by omega)
            have hpc := Lib.hid ((HtB.out.at Hb1.out).piece (i := p) (j := p + m) (bo := some ⟨b, off + p * 3, none⟩) (n := m) (c := cap - p) (by omega) (by omega) (by rw [if_neg (by omega)]; simp [Addr.add_lit, cellE]) (by omega) rfl)
            have hol2 : out.length ≤ 1000000000 := by have := hol.out; omega
            go_wp2_with (at_builtin; refine wpList_app_seq (E := cellE) (S := fun b => S b ∧ b < w.heap.size) (Sy := fun b => S b ∧ b < w.heap.size) (base := w.heap.size) (wm := w1) (vy := .slice (some ⟨b, off + p * 3, none⟩) m (cap - p)) (y := (t.take (p + m)).drop p) rfl (.tmp 33) (.tmp 38) 27 rfl Tryz.underlying27 infoSeq rfl Hown1.out rfl Seq.way (hpc.out.at Seq.way) (fun b h _ => ⟨h, .inl h.2⟩) (by go_simp) (by omega) Hb1.out.size ?_)
            intro ao2 cap2 w2 hown2 hk2
            have H2 := Lib.hid hown2
            have K2 := Lib.hid (Hb1.out.trans (Below.trans (Seq.way : Below w.heap.size w1 _) hk2.below))
            clear hown2 hk2
            go_wp2_with fail
            go_roundw
            case rel => exact ⟨k + 1, p + m, out ++ [(t.take (p + m)).drop p], by go_num, by go_num, by omega, by omega, by have := har.out; omega, by omega, Lib.hid (by rw [List.length_append, hol.out]; rfl), hst, by simpa using H2.out, K2.out⟩
            case measure => have := har.out; simp [intOf]; omega
        · have hfin := Lib.hid (show partsT t = out by rw [hinv.out, show N - k = 0 by have := har.out; omega]; simp [partsC])
          have Hown := Lib.hid hown
          clear hown
          go_wp2_with fail
          go_ret
          refine ⟨_, rfl, hbr, ?_⟩
          rw [hfin.out]
          exact Hown.out.seq (by have := hol.out; omega) fun b _ hb => hb.imp (·.1) id
    · have hk' : (c.kind != 3) = true := by simp [hk]
      have hpt := Lib.hid (show partsT t = [] by rw [hpt0]; unfold arity; rw [if_neg hk]; rfl)
      clear hpt0 ht0
      go_wp2_with fail
      go_ret
      refine ⟨_, rfl, Seq.way, ?_⟩
      rw [hpt.out]
      exact (Own.lit0 (S := fun _ => False) (e := 40) (w := w) rfl (Nat.le_refl _) rfl).seq (by simp) fun b _ hb => hb.elim False.elim .inr

/-! ### Depth -/
theorem maxL_snoc (l : List Nat) (a : Nat) : maxL (l ++ [a]) = max (maxL l) a := by
  induction l with
  | nil => simp [maxL]
  | cons b l ih => simp only [List.cons_append, maxL, ih]; omega
theorem maxD_step {ps : List (List Cell)} {k : Nat} (hk : k < ps.length) : maxL ((ps.take (k + 1)).map depthT) = max (maxL ((ps.take k).map depthT)) (depthT ps[k]) := by
  rw [List.take_succ_eq_append_getElem hk, List.map_append, List.map_cons, List.map_nil, maxL_snoc]
theorem maxD_le (ps : List (List Cell)) (k : Nat) (h : ∀ p ∈ ps, p.length ≤ 200) : maxL ((ps.take k).map depthT) ≤ 201 := by
  refine maxL_le fun x hx => ?_
  obtain ⟨p, hp, rfl⟩ := List.mem_map.1 hx
  have h1 := depthT_le p
  have h2 := h p (List.mem_of_mem_take hp)
  omega

set_option maxHeartbeats 1600000 in
set_option maxRecDepth 100000 in
theorem DepthR_spec : ∀ (n : Nat) {S : Nat → Prop} {w : World} {v : Value} {t : List Cell} (_ : t.length ≤ n) (_ : n ≤ 200) (_ : Seq cellE S w v t),
    Calls Tryz.prog 55 #[v] w (RetV (.int .i64 (depthT t)) w) := by
  intro n
  induction n with
  | zero =>
    intro S w v t h0 _ ht
    obtain rfl : t = [] := List.eq_nil_of_length_eq_zero (by omega)
    have Ht := Lib.hid ht
    obtain ⟨ao, cap, rfl, -⟩ := ht
    go_enter Tryz.func55, Tryz.ntmps55
    go_wp2_with fail
    refine (PartsR_spec Ht.out (by simp)).mono ?_
    rintro e w1 ⟨vp, rfl, hb1, hps⟩
    obtain ⟨pa, pc, rfl, -⟩ := hps
    have hpl : (partsT []).length = 0 := rfl
    go_wp2_with fail
    go_loopw [4, 5] (fun m i wr => m = .int .i64 0 ∧ i = .int .i64 0 ∧ wr = w1) (fun _ _ _ => 0)
    case atStart => exact ⟨rfl, rfl, rfl⟩
    case round =>
      obtain ⟨rfl, rfl, rfl⟩ := hrel
      go_wp2_with fail
      go_ret
      exact ⟨rfl, hb1⟩
  | succ n ih =>
    intro S w v t hlen hn ht
    have Ht := Lib.hid ht
    have hd := Lib.hid (depthT_eq (t := t) (by omega))
    have hpr := Lib.hid (partsT_right (t := t) (by omega))
    obtain ⟨ao, cap, rfl, -⟩ := ht
    go_enter Tryz.func55, Tryz.ntmps55
    go_wp2_with fail
    refine (PartsR_spec Ht.out (by omega)).mono ?_
    rintro e w1 ⟨vp, rfl, hb1, hps⟩
    obtain ⟨ps, hpse⟩ : ∃ ps, ps = partsT t := ⟨_, rfl⟩
    rw [← hpse] at hps hd hpr
    have Hps := Lib.hid hps
    obtain ⟨pa, pc, rfl, -, -, hpl, -, h5⟩ := hps
    have hmx := Lib.hid (fun k => maxD_le ps k fun p hp => by
      have h1 := hpr.out p hp
      omega)
    clear hpse
    go_wp2_with fail
    go_loopw [4, 5] (fun m i wr => ∃ k : Nat, k ≤ ps.length ∧ i = .int .i64 k ∧ m = .int .i64 (maxL ((ps.take k).map depthT)) ∧ Below w1.heap.size w1 wr) (fun _ i _ => ps.length - (intOf i).toNat)
    case atStart => exact ⟨0, Nat.zero_le _, rfl, rfl, Below.refl _ _⟩
    case round =>
      obtain ⟨k, hk, rfl, rfl, hbr⟩ := hrel
      by_cases hlt : k < ps.length
      · obtain ⟨b1, o1, p1, n1, rfl, -, -, c0, hX⟩ := (h5.below hbr fun _ _ h => h).seq hlt
        have HX := Lib.hid hX
        have hpk := hpr.out _ (List.getElem_mem hlt)
        have hst := Lib.hid (maxD_step hlt)
        have hdl := depthT_le ps[k]
        have hml := hmx.out k
        obtain ⟨p, hp⟩ : ∃ p, p = ps[k] := ⟨_, rfl⟩
        rw [← hp] at c0 HX hpk hst hdl
        obtain ⟨m, hm⟩ : ∃ m, m = maxL ((ps.take k).map depthT) := ⟨_, rfl⟩
        rw [← hm] at hst hml ⊢
        clear hp hm h5 hX
        have hpl2 : p.length ≤ n := by omega
        have hpl3 : p.length ≤ 200 := by omega
        have hkl : (k : Int) < (ps.length : Int) := by omega
        have hk0 : (0 : Int) ≤ (k : Int) := by omega
        go_wp2_with fail
        refine (ih hpl2 (by omega) HX.out).mono ?_
        rintro e w2 ⟨rfl, hb2⟩
        have hb2' := below_step hb2 hbr
        obtain ⟨d, hde⟩ : ∃ d, d = depthT p := ⟨_, rfl⟩
        rw [← hde] at hst hdl ⊢
        clear hde
        by_cases hdm : m < d
        · have hdm' : (m : Int) < (d : Int) := by omega
          have hr := Lib.hid (show maxL ((ps.take (k + 1)).map depthT) = d by rw [hst.out]; omega)
          go_wp2_with fail
          go_roundw
          case rel => exact ⟨k + 1, hlt, by go_num, by rw [hr.out], hb2'⟩
          case measure => simp [intOf]; omega
        · have hdm' : ¬ (m : Int) < (d : Int) := by omega
          have hr := Lib.hid (show maxL ((ps.take (k + 1)).map depthT) = m by rw [hst.out]; omega)
          go_wp2_with fail
          go_roundw
          case rel => exact ⟨k + 1, hlt, by go_num, by rw [hr.out], hb2'⟩
          case measure => simp [intOf]; omega
      · obtain rfl : k = ps.length := by omega
        have hml := hmx.out ps.length
        rw [List.take_length] at hml ⊢
        go_wp2_with fail
        go_ret
        exact ⟨ret_int (by rw [hd.out]; go_num), hb1.trans (hbr.mono hb1.size)⟩
end Go.Proofs.YtbcambjonjhopaaGreat
