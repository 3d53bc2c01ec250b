/-
  The program's terms: ground ones, parts, depth.
-/
import Derived.Test.YteefdmpaclnaiaaTmP
namespace Go.Proofs.Yteefdmpaclnaiaa
open Go Go.RowKit

def isVarC (c : Cell) : Bool := decide (c.kind = 1)
theorem isVar_spec {w : World} {c : Cell} : Calls Try.prog 78 #[cellV c] w (RetV (.bool (isVarC c)) w) := by
  have hv := Lib.hid (show isVarC c = decide (c.kind = 1) from rfl)
  unfold cellV
  go_enter Try.func78, Try.ntmps78
  go_wp2_with fail
  go_ret
  exact ⟨ret_bool (by rw [hv.out, Bool.eq_iff_iff]; simp), Seq.way⟩

set_option maxHeartbeats 1600000 in
set_option maxRecDepth 100000 in
theorem cellVar_index {T : Nat → Prop} {w : World} {v : Value} {l : List (Cell)} (hl : Seq cellE T w v l) :
    Calls Try.prog 98 #[v, .func (.func 78) #[] #[]] w (HasV (l.any isVarC) w) := by
  obtain ⟨P, hP⟩ : ∃ P, P = (isVarC : Cell → Bool) := ⟨_, rfl⟩
  have HP := Lib.hid hP
  obtain ⟨ao, cap, rfl, h1, h2, h3, h4, h5⟩ := hl
  rw [← hP]
  clear hP
  go_enter Try.func98, Try.ntmps98
  go_wp2_with fail
  go_loopw [8] (fun i wr => ∃ k : Nat, k ≤ l.length ∧ i = .int .i64 k ∧ Hid (∀ x ∈ l.take k, P x = false) ∧ Below w.heap.size w wr) (fun i _ => l.length - (intOf i).toNat)
  case atStart => exact ⟨0, Nat.zero_le _, rfl, Lib.hid (by simp), Seq.way⟩
  case round =>
    obtain ⟨k, hk, rfl, hno, hbr⟩ := hrel
    have hzr := hbr.size
    by_cases hlt : k < l.length
    · obtain ⟨b, off, rfl, -, -, c0, c1, c2, -⟩ := (h5.below hbr fun _ _ h => h).cell hlt
      have hmem := Lib.hid (List.getElem_mem hlt)
      have hxs := Lib.hid (show P l[k] = false → ∀ y ∈ l.take (k + 1), P y = false from fun hp y hy => by
        rw [List.take_succ_eq_append_getElem hlt] at hy
        rcases List.mem_append.1 hy with h | h
        · exact hno.out y h
        · rw [List.mem_singleton] at h; rw [h]; exact hp)
      have hxa := Lib.hid (show P l[k] = true → l.any P = true from fun hp => List.any_eq_true.2 ⟨l[k], List.getElem_mem hlt, hp⟩)
      obtain ⟨x, hxe⟩ : ∃ x, x = l[k] := ⟨_, rfl⟩
      rw [← hxe] at hxs hxa hmem c0 c1 c2
      clear hxe h5 hno
      have hkl : (k : Int) < (l.length : Int) := by omega
      have hk0 : (0 : Int) ≤ (k : Int) := by omega
      go_wp2_with fail
      refine (isVar_spec (c := x)).mono ?_
      rw [show isVarC x = P x by rw [← HP.out]]
      rintro e w' ⟨rfl, hb'⟩
      have hbw := below_step hb' hbr
      cases hp : P x
      · have hst := Lib.hid (hxs.out hp)
        clear hp
        go_wp2_with fail
        go_roundw
        case rel => exact ⟨k + 1, hlt, by go_num, hst, hbw⟩
        case measure => simp [intOf]; omega
      · have hst := Lib.hid (hxa.out hp)
        clear hp
        go_wp2_with fail
        go_ret
        exact ⟨_, rfl, by rw [hst.out]; simp, hbw⟩
    · obtain rfl : k = l.length := by omega
      have hst := Lib.hid (show l.any P = false by
        rw [List.any_eq_false]; intro x hx; rw [hno.out x (by rw [List.take_length]; exact hx)]; simp)
      clear hno
      go_wp2_with fail
      go_ret
      exact ⟨_, rfl, by rw [hst.out]; rfl, hbr⟩

theorem cellVar_has {T : Nat → Prop} {w : World} {v : Value} {l : List (Cell)} (hl : Seq cellE T w v l) :
    Calls Try.prog 77 #[v, .func (.func 78) #[] #[]] w (RetV (.bool (l.any isVarC)) w) := by
  have hl' := Lib.hid hl
  obtain ⟨ao, cap, rfl, -⟩ := hl
  go_enter Try.func77, Try.ntmps77
  go_wp2_with fail
  refine (cellVar_index hl'.out).mono ?_
  rintro e w' ⟨r, rfl, hr, hb⟩
  have hr := Lib.hid hr
  go_wp2_with fail
  all_goals go_ret
  all_goals exact ⟨ret_bool (by rw [← hr.out]), hb⟩

theorem GroundP_spec {S : Nat → Prop} {w : World} {v : Value} {t : List Cell} (ht : Seq cellE S w v t) :
    Calls Try.prog 55 #[v] w (RetV (.bool (groundT t)) w) := by
  have Ht := Lib.hid ht
  have hg := Lib.hid (show groundT t = !(t.any isVarC) by unfold groundT isVarC; rw [List.not_any_eq_all_not])
  obtain ⟨ao, cap, rfl, -⟩ := ht
  go_enter Try.func55, Try.ntmps55
  go_wp2_with fail
  refine (cellVar_has Ht.out).mono ?_
  rintro e w1 ⟨rfl, hb1⟩
  go_wp2_with fail
  go_ret
  exact ⟨ret_bool hg.out.symm, hb1⟩

theorem endC_nil {n : Nat} {l : List Cell} (h : endC n l = some l.length) : n = 0 ↔ l = [] := by
  constructor
  · rintro rfl
    rw [endC_zero] at h
    exact List.eq_nil_of_length_eq_zero (by simpa using h.symm)
  · rintro rfl
    cases n with
    | zero => rfl
    | succ n => simp [endC] at h
theorem endC_rest {n : Nat} {l : List Cell} (h : endC (n + 1) l = some l.length) : ∃ m, endC 1 l = some m ∧ 1 ≤ m ∧ m ≤ l.length ∧ endC n (l.drop m) = some (l.drop m).length := by
  rw [Nat.add_comm, endC_add] at h
  obtain ⟨m, h1, h2⟩ := Option.bind_eq_some_iff.1 h
  obtain ⟨x, h3, h4⟩ := Option.map_eq_some_iff.1 h2
  have := endC_le h1
  exact ⟨m, h1, this.2, this.1, by rw [h3, List.length_drop]; congr 1; omega⟩

set_option maxHeartbeats 1600000 in
set_option maxRecDepth 100000 in
theorem PartsP_spec {S : Nat → Prop} {w : World} {v : Value} {t : List Cell} (ht : Seq cellE S w v t) (hr : RightT t) :
    Calls Try.prog 79 #[v] w (Ret (fun r w' => Seq (seqE cellE) (Fr S w) w' r (partsT t)) w) := by
  have Ht := Lib.hid ht
  have HtB := Lib.hid ht.bnd
  have hlen := hr.1
  have hl0 := hr.pos
  obtain ⟨c, l, hcl, hok, hend⟩ := hr.cons
  obtain ⟨ao, cap, rfl, h1, h2, h3, h4, h5⟩ := ht
  obtain ⟨b, off, rfl, hS, hb, c0, -⟩ := h5.cell hl0
  have ht0 : t[0] = c := by simp [hcl]
  rw [ht0] at c0
  simp only [Nat.zero_mul, Nat.add_zero] at c0
  have hpt := Lib.hid (show partsT t = partsC (arity c) (t.drop 1) by rw [hcl]; rfl)
  have hen := Lib.hid (show endC (arity c) (t.drop 1) = some (t.drop 1).length by rw [hcl]; exact hend)
  have hln : ((t.length : Int) == 0) = false := by rw [beq_eq_false_iff_ne]; omega
  have hlen0 : (0 : Int) < (t.length : Int) := by omega
  have hno := Lib.hid (show c.kind ≠ 3 → partsT t = [] from fun h => by rw [hpt.out]; unfold arity; rw [if_neg h]; rfl)
  obtain ⟨N, hN⟩ : ∃ N, N = arity c := ⟨_, rfl⟩
  rw [← hN] at hpt hen
  clear hcl ht0 hr hok hend hN
  go_enter Try.func79, Try.ntmps79
  by_cases hk : c.kind = 3
  · have hk' : (c.kind != 3) = false := by simp [hk]
    go_wp2_with fail
    go_loopw [3, 4] (fun o at_ wr => ∃ (k p : Nat) (out : List (List Cell)), at_ = .int .i64 p ∧ 1 ≤ p ∧ p ≤ t.length ∧ out.length ≤ p ∧ Hid (partsT t = out ++ partsC k (t.drop p)) ∧ Hid (endC k (t.drop p) = some (t.drop p).length) ∧
      Own (seqE cellE) (fun b => S b ∧ b < w.heap.size) w.heap.size 30 wr o out ∧ Below w.heap.size w wr) (fun _ at_ _ => t.length - (intOf at_).toNat)
    case atStart =>
      exact ⟨N, 1, [], rfl, Nat.le_refl _, hl0, by simp, Lib.hid (by rw [hpt.out]; rfl), hen, Own.nil _ _ _ _ _, Below.refl _ _⟩
    case round =>
      obtain ⟨k, p, out, rfl, hp1, hp2, hol, hinv, hinv2, hown, hbr⟩ := hrel
      have hzr := hbr.size
      obtain ⟨oa, oc, rfl, -, -⟩ := hown.shape
      by_cases hlt : p < t.length
      · obtain ⟨k', rfl⟩ : ∃ k', k = k' + 1 := by
          cases k with
          | zero =>
            have := (endC_nil hinv2.out).1 rfl
            have h0 := congrArg List.length this
            rw [List.length_drop] at h0
            simp at h0
            omega
          | succ k => exact ⟨k, rfl⟩
        obtain ⟨m, hm1, hm2, hm3, hm4⟩ := endC_rest hinv2.out
        rw [List.length_drop] at hm3
        rw [List.drop_drop] at hm4
        have hE : endN t p = ((p + m : Nat) : Int) := by unfold endN endO; rw [hm1]; rfl
        have hst := Lib.hid (show partsT t = (out ++ [(t.take (p + m)).drop p]) ++ partsC k' (t.drop (p + m)) by
          rw [hinv.out, partsC_step hm1, List.drop_drop, List.drop_take, Nat.add_sub_cancel_left, List.append_assoc]
          rfl)
        have Hm4 := Lib.hid hm4
        have Hown := Lib.hid hown
        have hpl : (p : Int) < (t.length : Int) := by omega
        clear hinv hinv2 hm1 hm4 hown
        go_wp2_with fail
        refine (endP_spec (p := p) (Ht.out.at hbr) (by omega)).mono ?_
        rintro e w1 ⟨rfl, hb1⟩
        have hb1' := below_step hb1 hbr
        have Hown1 := Lib.hid (Hown.out.move hb1)
        have Hb1 := Lib.hid hb1'
        rw [hE]
        have hnn : (((p + m : Nat) : Int) == 0) = false := by rw [beq_eq_false_iff_ne]; omega
        have hnn' : ((p : Int) + (m : Int) == 0) = false := by rw [beq_eq_false_iff_ne]; omega
        have hpc := Lib.hid ((HtB.out.at Hb1.out).piece (i := p) (j := p + m) (bo := some ⟨b, off + p * 3, none⟩) (n := m) (c := cap - p) (by omega) (by omega) (by rw [if_neg (by omega)]; simp [Addr.add_lit, cellE]) (by omega) rfl)
        have hif : (if cap = p then (some ⟨b, off, none⟩ : Option Addr) else some ⟨b, off + p * 3, none⟩) = some ⟨b, off + p * 3, none⟩ := by rw [if_neg (by omega)]
        have hol2 : out.length ≤ 1000000000 := by omega
        clear hE hb1'
        go_wp2_with (at_builtin; refine wpList_app_seq (E := cellE) (S := fun b => S b ∧ b < w.heap.size) (Sy := fun b => S b ∧ b < w.heap.size) (base := w.heap.size) (wm := w1) (vy := .slice (some ⟨b, off + p * 3, none⟩) m (cap - p)) (y := (t.take (p + m)).drop p) rfl (.tmp 25) (.tmp 30) 22 rfl Try.underlying22 infoSeq rfl Hown1.out rfl Seq.way (hpc.out.at Seq.way) (fun b h _ => ⟨h, .inl h.2⟩) (by go_simp) (by omega) Hb1.out.size ?_)
        intro ao2 cap2 w2 hown2 hk2
        have H2 := Lib.hid hown2
        have K2 := Lib.hid (Hb1.out.trans (Below.trans (Below.mono (Seq.way : Below w1.heap.size w1 _) Hb1.out.size) hk2.below))
        clear hown2 hk2
        go_wp2_with fail
        go_roundw
        case rel => exact ⟨k', p + m, out ++ [(t.take (p + m)).drop p], by go_num, by omega, by omega, by rw [List.length_append]; simp; omega, hst, Hm4, by simpa using H2.out, K2.out⟩
        case measure => simp [intOf]; omega
      · obtain rfl : p = t.length := by omega
        have hfin := Lib.hid (show partsT t = out by
          rw [hinv.out, (endC_nil hinv2.out).2 (List.drop_eq_nil_of_le (Nat.le_refl _))]; simp [partsC])
        have Hown := Lib.hid hown
        clear hown
        go_wp2_with fail
        go_ret
        refine ⟨_, rfl, hbr, ?_⟩
        rw [hfin.out]
        exact Hown.out.seq (by omega) fun b _ hb => hb.imp (·.1) id
  · have hk' : (c.kind != 3) = true := by simp [hk]
    have hz := Lib.hid (hno.out hk)
    go_wp2_with fail
    go_ret
    exact ⟨_, rfl, Below.refl _ _, by rw [hz.out]; exact Seq.nil _ _ _⟩

set_option maxHeartbeats 1600000 in
set_option maxRecDepth 100000 in
theorem DepthP_spec : ∀ (n : Nat) {S : Nat → Prop} {w : World} {v : Value} {t : List Cell} (_ : t.length ≤ n) (_ : RightT t) (_ : Seq cellE S w v t),
    Calls Try.prog 56 #[v] w (RetV (.int .i64 (depthT t)) w) := by
  intro n
  induction n with
  | zero =>
    intro S w v t h0 hr ht
    have := hr.pos
    omega
  | succ n ih =>
    intro S w v t hlen hr ht
    have Ht := Lib.hid ht
    have Hr := Lib.hid hr
    have hl2 := hr.1
    have hd := Lib.hid (depthT_eq (t := t) (by omega))
    have hpr := Lib.hid (partsT_right (t := t) (by omega))
    obtain ⟨ao, cap, rfl, -⟩ := ht
    clear hr
    go_enter Try.func56, Try.ntmps56
    go_wp2_with fail
    refine (PartsP_spec Ht.out Hr.out).mono ?_
    rintro e w1 ⟨vp, rfl, hb1, hps⟩
    obtain ⟨ps, hpse⟩ : ∃ ps, ps = partsT t := ⟨_, rfl⟩
    rw [← hpse] at hps hd hpr
    have Hps := Lib.hid hps
    obtain ⟨pa, pc, rfl, -, -, hpl, -, h5⟩ := hps
    have hmx := Lib.hid (fun k => maxD_le ps k fun p hp => by
      have h1 := hpr.out p hp
      omega)
    clear hpse
    go_wp2_with fail
    go_loopw [3, 9] (fun m i wr => ∃ k : Nat, k ≤ ps.length ∧ i = .int .i64 k ∧ m = .int .i64 (maxL ((ps.take k).map depthT)) ∧ Below w1.heap.size w1 wr) (fun _ i _ => ps.length - (intOf i).toNat)
    case atStart => exact ⟨0, Nat.zero_le _, rfl, rfl, Below.refl _ _⟩
    case round =>
      obtain ⟨k, hk, rfl, rfl, hbr⟩ := hrel
      by_cases hlt : k < ps.length
      · obtain ⟨b1, o1, p1, n1, rfl, -, -, c0, hX⟩ := (h5.below hbr fun _ _ h => h).seq hlt
        have HX := Lib.hid hX
        have hpk := hpr.out _ (List.getElem_mem hlt)
        have hst := Lib.hid (maxD_step hlt)
        have hdl := depthT_le ps[k]
        have hml := hmx.out k
        obtain ⟨p, hp⟩ : ∃ p, p = ps[k] := ⟨_, rfl⟩
        rw [← hp] at c0 HX hpk hst hdl
        obtain ⟨m, hm⟩ : ∃ m, m = maxL ((ps.take k).map depthT) := ⟨_, rfl⟩
        rw [← hm] at hst hml ⊢
        clear hp hm h5 hX
        have hpl2 : p.length ≤ n := by omega
        have hpR := Lib.hid hpk.1
        have hkl : (k : Int) < (ps.length : Int) := by omega
        have hk0 : (0 : Int) ≤ (k : Int) := by omega
        clear hpk
        go_wp2_with fail
        refine (ih hpl2 hpR.out HX.out).mono ?_
        rintro e w2 ⟨rfl, hb2⟩
        have hb2' := below_step hb2 hbr
        obtain ⟨d, hde⟩ : ∃ d, d = depthT p := ⟨_, rfl⟩
        rw [← hde] at hst hdl ⊢
        clear hde
        go_wp2_with fail
        go_roundw
        case rel => exact ⟨k + 1, hlt, by go_num, by rw [hst.out]; split <;> (congr 1; omega), hb2'⟩
        case measure => simp [intOf]; omega
      · obtain rfl : k = ps.length := by omega
        have hml := hmx.out ps.length
        rw [List.take_length] at hml ⊢
        go_wp2_with fail
        go_ret
        exact ⟨ret_int (by rw [hd.out]; go_num), hb1.trans (hbr.mono hb1.size)⟩
end Go.Proofs.Yteefdmpaclnaiaa
