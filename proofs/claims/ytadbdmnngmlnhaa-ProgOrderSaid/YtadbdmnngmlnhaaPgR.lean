/-
  Layer 7, the law: are there too many clauses, or literals, or cells?
  Layer 7, the law: the clauses that may be.
-/
import Derived.Test.YtadbdmnngmlnhaaPgN
namespace Go.Proofs.Ytadbdmnngmlnhaa
section
open Go Go.RowKit

def bigC (c : Cls) : Bool := decide (300 < c.head.length) || decide (10 < c.body.length) || c.body.any fun b => decide (300 < b.t.length)
def greatC (l : List Cls) : Bool := decide (70 < l.length) || l.any bigC
def SmallTo (l : List Cls) (k : Nat) : Prop := ∀ i c, i < k → l[i]? = some c → bigC c = false
theorem smallTo_succ {l : List Cls} {k : Nat} (h : SmallTo l k) (hk : k < l.length) (hc : bigC l[k] = false) : SmallTo l (k + 1) := fun i c hi hx => by
  by_cases e : i = k
  · subst e; rw [List.getElem?_eq_getElem hk] at hx; exact Option.some.inj hx ▸ hc
  · exact h i c (by omega) hx
theorem greatC_yes {l : List Cls} {k : Nat} (hk : k < l.length) (h : bigC l[k] = true) : greatC l = true := by
  unfold greatC; rw [List.any_eq_true.2 ⟨l[k], List.getElem_mem hk, h⟩, Bool.or_true]
theorem greatC_no {l : List Cls} (h1 : l.length ≤ 70) (h : SmallTo l l.length) : greatC l = false := by
  unfold greatC
  rw [decide_eq_false (by omega), Bool.false_or]
  refine List.any_eq_false.2 fun c hc => ?_
  obtain ⟨i, hi, rfl⟩ := List.mem_iff_getElem.1 hc
  simpa using h i _ hi (List.getElem?_eq_getElem hi)

set_option maxHeartbeats 3200000 in
set_option maxRecDepth 100000 in
theorem GreatL_spec {S : Nat → Prop} {w : World} {v : Value} {l : List Cls} (hl : Seq clsE S w v l) :
    Calls Try.prog 12 #[v] w (RetV (.bool (greatC l)) w) := by
  have HL := Lib.hid hl
  obtain ⟨aa, ac, rfl, -, -, hll, -⟩ := hl
  have hfL := fun {w' : World} (h : Below w.heap.size w w') => Lib.hid (HL.out.at h)
  go_enter Try.func12, Try.ntmps12
  by_cases h70 : 70 < l.length
  · have he := Lib.hid (show greatC l = true by unfold greatC; rw [decide_eq_true h70]; rfl)
    have h70I : (70 : Int) < (l.length : Int) := by omega
    go_wp2_with fail
    go_ret
    exact ⟨ret_bool he.out.symm, Below.refl _ _⟩
  have h70I : ¬ (70 : Int) < (l.length : Int) := by omega
  go_wp2_with fail
  go_loopw [3] (fun i wr => ∃ k : Nat, k ≤ l.length ∧ i = .int .i64 k ∧ Hid (SmallTo l k) ∧ Hid (Below w.heap.size w wr)) (fun i _ => l.length - (intOf i).toNat)
  case atStart => exact ⟨0, Nat.zero_le _, rfl, Lib.hid (fun i c h _ => by omega), Lib.hid (Below.refl _ _)⟩
  case round =>
    obtain ⟨k, hk, rfl, hA, hbr⟩ := hrel
    by_cases hlt : k < l.length
    · obtain ⟨_, _, ee, -, -, -, -, x5⟩ := (hfL hbr.out).out
      simp only [Value.slice.injEq, true_and] at ee
      obtain ⟨rfl, rfl⟩ := ee
      obtain ⟨b1, o1, ha, hc, la, lc, rfl, -, l1, c0, c1, hH, hB⟩ := x5.cls hlt
      have hy := Lib.hid (fun h => smallTo_succ hA.out hlt h)
      have hn := Lib.hid (fun h => greatC_yes hlt h)
      have HB := Lib.hid hB
      obtain ⟨c, hcx⟩ : ∃ c, c = l[k] := ⟨_, rfl⟩
      rw [← hcx] at c0 c1 hy hn HB
      have hbl : c.body.length ≤ 140737488355328 := by obtain ⟨_, _, _, _, _, h, _⟩ := HB.out; exact h
      have hkl : (k : Int) < (l.length : Int) := by omega
      have hk0 : (0 : Int) ≤ (k : Int) := by omega
      clear hcx x5 hH hB
      by_cases h1 : 300 < c.head.length
      · have hn' := Lib.hid (hn.out (by unfold bigC; rw [decide_eq_true h1]; rfl))
        have h1I : (300 : Int) < (c.head.length : Int) := by omega
        clear hy hn
        go_wp2_with fail
        go_ret
        exact ⟨ret_bool hn'.out.symm, hbr.out⟩
      have h1I : ¬ (300 : Int) < (c.head.length : Int) := by omega
      by_cases h2 : 10 < c.body.length
      · have hn' := Lib.hid (hn.out (by unfold bigC; rw [decide_eq_true h2, Bool.or_true]; rfl))
        have h2I : (10 : Int) < (c.body.length : Int) := by omega
        clear hy hn
        go_wp2_with fail
        go_ret
        exact ⟨ret_bool hn'.out.symm, hbr.out⟩
      have h2I : ¬ (10 : Int) < (c.body.length : Int) := by omega
      have hbc := Lib.hid (show bigC c = c.body.any fun b => decide (300 < b.t.length) by unfold bigC; rw [decide_eq_false h1, decide_eq_false h2]; rfl)
      have Kc := fun {W : World} (h : Below wr.heap.size wr W) => Lib.hid (show W.cell? ⟨b1, o1 + k * 2 + 1, none⟩ = some (.slice la c.body.length lc) from (h.cell (p := ⟨b1, o1 + k * 2 + 1, none⟩) l1).trans c1)
      have hfB := fun {w' : World} (h : Below wr.heap.size wr w') => Lib.hid (HB.out.at h)
      clear h1 h2
      go_wp2_with fail
      go_loopw [4] (fun i wz => ∃ j : Nat, j ≤ c.body.length ∧ i = .int .i64 j ∧ Hid (∀ i b, i < j → c.body[i]? = some b → ¬ 300 < b.t.length) ∧ Hid (Below wr.heap.size wr wz)) (fun i _ => c.body.length - (intOf i).toNat)
      case atStart => exact ⟨0, Nat.zero_le _, rfl, Lib.hid (fun i b h _ => by omega), Lib.hid (Below.refl _ _)⟩
      case round =>
        obtain ⟨j, hj, rfl, hA2, hbz⟩ := hrel
        have d1 := (Kc hbz.out).out
        have Hbz := Lib.hid (below_step hbz.out hbr.out)
        by_cases hjl : j < c.body.length
        · obtain ⟨_, _, ee, -, -, -, -, x6⟩ := (hfB hbz.out).out
          simp only [Value.slice.injEq, true_and] at ee
          obtain ⟨rfl, rfl⟩ := ee
          obtain ⟨b2, o2, ta, tc, rfl, -, l3, -, e1, -⟩ := x6.lit hjl
          have hyes := Lib.hid (fun h => List.any_eq_true.2 ⟨c.body[j], List.getElem_mem hjl, decide_eq_true h⟩ : 300 < c.body[j].t.length → (c.body.any fun b => decide (300 < b.t.length)) = true)
          have hsuc := Lib.hid (show ¬ 300 < c.body[j].t.length → ∀ i b, i < j + 1 → c.body[i]? = some b → ¬ 300 < b.t.length from fun h i b hi hx => by
            by_cases e : i = j
            · subst e; rw [List.getElem?_eq_getElem hjl] at hx; exact Option.some.inj hx ▸ h
            · exact hA2.out i b (by omega) hx)
          obtain ⟨m, hm⟩ : ∃ m, m = c.body[j].t.length := ⟨_, rfl⟩
          rw [← hm] at e1 hyes hsuc
          have hjI : (j : Int) < (c.body.length : Int) := by omega
          have hj0 : (0 : Int) ≤ (j : Int) := by omega
          clear hm x6
          by_cases hmm : 300 < m
          · have hn' := Lib.hid (hn.out (by rw [hbc.out]; exact hyes.out hmm))
            have hmI : (300 : Int) < (m : Int) := by omega
            clear hyes hsuc hy hn
            go_wp2_with fail
            go_ret
            exact ⟨ret_bool hn'.out.symm, Hbz.out⟩
          · have hs' := Lib.hid (hsuc.out hmm)
            have hmI : ¬ (300 : Int) < (m : Int) := by omega
            clear hyes hsuc
            go_wp2_with fail
            go_roundw
            case rel => exact ⟨j + 1, hjl, by go_num, hs', hbz⟩
            case measure => simp [intOf]; omega
        · have hjn := Lib.hid (show j = c.body.length by omega)
          have hjI : ¬ (j : Int) < (c.body.length : Int) := by omega
          have hy' := Lib.hid (hy.out (by
            rw [hbc.out]
            refine List.any_eq_false.2 fun b hb => ?_
            obtain ⟨i, hi, rfl⟩ := List.mem_iff_getElem.1 hb
            simpa using hA2.out i _ (by rw [hjn.out]; exact hi) (List.getElem?_eq_getElem hi)))
          clear hjl hy hn
          go_wp2_with fail
          go_roundw
          case rel => exact ⟨k + 1, hlt, by go_num, hy', Hbz⟩
          case measure => simp [intOf]; omega
    · have hkn := Lib.hid (show k = l.length by omega)
      have hkI : ¬ (k : Int) < (l.length : Int) := by omega
      have he := Lib.hid (greatC_no (show l.length ≤ 70 by omega) (by rw [← hkn.out]; exact hA.out))
      clear hlt
      go_wp2_with fail
      go_ret
      exact ⟨ret_bool he.out.symm, hbr.out⟩
end
section
open Go Go.RowKit

theorem infoCls : (Try.prog.info? 31).map (fun i => (i.zero, i.size, i.bytes)) = some (some (.agg #[.slice none 0 0, .slice none 0 0]), 2, 48) := by kernel_rfl
section
variable {P : Program} {ops : Array Oper} {rest : List Oper} {o : Oper} {a : Act} {Q : Exit → Act → World → Prop}
theorem wpList_app_cls {S Sy : Nat → Prop} {w wm : World} (hgd : o.guard = none) (s x : Operand) (t : TypeId)
    (ho : o.op = .call { callee := .builtin .append, args := #[s, x], argTypes := #[t, t] })
    {base : Nat} {e : TypeId} (ht : P.underlying t = some (.slice e)) (hi : (P.info? e).map (fun i => (i.zero, i.size, i.bytes)) = some (some (.agg #[.slice none 0 0, .slice none 0 0]), 2, 48))
    {v : Value} {xs : List Cls} (hs : a.eval s = v) (hown : Own clsE S base e wm v xs) {B c : Nat} (hx : a.eval x = .slice (some ⟨B, 0, none⟩) 1 c)
    (hbw : Below wm.heap.size wm w) {y : Cls} {vh vb : Value} (hh : Seq cellE Sy w vh y.head) (hb : Seq litE Sy w vb y.body) (hS : ∀ b, Sy b → b < w.heap.size → S b ∧ (b < base ∨ wm.heap.size ≤ b))
    (hc0 : w.cell? ⟨B, 0, none⟩ = some vh) (hc1 : w.cell? ⟨B, 1, none⟩ = some vb) (hbytes : xs.length ≤ 1000000000000) (hbase : base ≤ wm.heap.size)
    (h : ∀ ao cap w', Own clsE S base e w' (.slice ao (xs.length + 1) cap) (xs ++ [y]) → Kept base wm w w' v (.slice ao (xs.length + 1) cap) → wpList P ops Q rest (a.put o.dst (.slice ao (xs.length + 1) cap)) w') : wpList P ops Q (o :: rest) a w :=
  wpList_app1 (E := clsE) (Sy := Sy) (y := y) (cs := [vh, vb]) hgd s x t ho ht hi rfl hs hown hbw _ _ hx ⟨vh, vb, rfl, hh, hb⟩ hS
    (by
      intro j hj
      have h3 : j < 2 := hj
      rcases (show j = 0 ∨ j = 1 by omega) with rfl | rfl
      · exact hc0
      · exact hc1) (by omega) (by simp only [maxLen]; omega) hbase
    fun ao cap w' h1 h2 h3 h4 => h ao cap w' h1 (Kept.of h2 h3 hbw hbase h4)
end

def madeL (l : List Cls) : List Cls := fltL mayC l

set_option maxHeartbeats 3200000 in
set_option maxRecDepth 100000 in
theorem MadeL_spec {S : Nat → Prop} {w : World} {v : Value} {l : List Cls} (hl : Seq clsE S w v l) (hlen : l.length ≤ 1000) :
    Calls Try.prog 17 #[v] w (Ret (fun r w' => Seq clsE (Fr S w) w' r (madeL l)) w) := by
  have HL := Lib.hid hl.bnd
  obtain ⟨aa, ac, rfl, -⟩ := hl
  have hfL := fun {w' : World} (h : Below w.heap.size w w') => Lib.hid (HL.out.at h)
  go_enter Try.func17, Try.ntmps17
  go_wp2_with fail
  go_loopw [3, 4] (fun o i wr => ∃ k : Nat, k ≤ l.length ∧ i = .int .i64 k ∧ Hid (Own clsE (fun b => S b ∧ b < w.heap.size) w.heap.size 31 wr o (fltL mayC (l.take k))) ∧ Hid (Below w.heap.size w wr)) (fun _ i _ => l.length - (intOf i).toNat)
  case atStart => exact ⟨0, Nat.zero_le _, rfl, Lib.hid (Own.lit0 rfl (Nat.le_refl _) rfl), Lib.hid Seq.way⟩
  case round =>
    obtain ⟨k, hk, rfl, hO, hbr⟩ := hrel
    have hzr := hbr.out.size
    have hln := Lib.hid (show (fltL mayC (l.take k)).length ≤ 1000 by have := fltL_len mayC (l.take k); rw [List.length_take] at this; omega)
    by_cases hlt : k < l.length
    · obtain ⟨_, _, ee, -, -, -, -, x5⟩ := (hfL hbr.out).out
      simp only [Value.slice.injEq, true_and] at ee
      obtain ⟨rfl, rfl⟩ := ee
      obtain ⟨b1, o1, ha, hc, la, lc, rfl, -, l1, c0, c1, hH, hB⟩ := x5.cls hlt
      have hy := Lib.hid (fun h => fltL_yes (f := mayC) hlt h)
      have hn := Lib.hid (fun h => fltL_no (f := mayC) hlt h)
      have HH := Lib.hid hH
      have HB := Lib.hid hB
      have HV := Lib.hid (show ClsV (fun b => S b ∧ b < w.heap.size) wr (.agg #[.slice ha l[k].head.length hc, .slice la l[k].body.length lc]) l[k] from ⟨ha, hc, la, lc, rfl, hH, hB⟩)
      obtain ⟨c, hcx⟩ : ∃ c, c = l[k] := ⟨_, rfl⟩
      rw [← hcx] at c0 c1 hy hn HV HH HB
      have hkl : (k : Int) < (l.length : Int) := by omega
      have hk0 : (0 : Int) ≤ (k : Int) := by omega
      clear hcx x5 hH hB
      go_wp2_with fail
      refine (MayR_spec (HV.out.at Seq.way)).mono ?_
      rintro e y1 ⟨rfl, hb1⟩
      replace hb1 := below_step hb1 (Seq.way : Below wr.heap.size wr _)
      have Hb1 := Lib.hid hb1
      have HB1 := Lib.hid (below_step hb1 hbr.out)
      have HHy := Lib.hid (HH.out.at hb1)
      have HBy := Lib.hid (HB.out.at hb1)
      have d0 : y1.cell? ⟨b1, o1 + k * 2, none⟩ = _ := (hb1.cell (p := ⟨b1, o1 + k * 2, none⟩) l1).trans c0
      have d1 : y1.cell? ⟨b1, o1 + k * 2 + 1, none⟩ = _ := (hb1.cell (p := ⟨b1, o1 + k * 2 + 1, none⟩) l1).trans c1
      have l2 : b1 < y1.heap.size := Nat.lt_of_lt_of_le l1 hb1.size
      clear hb1 c0 c1 HV
      cases he : mayC c with
      | true =>
        have hy' := Lib.hid (hy.out he)
        clear hy hn he
        go_wp2_with (at_builtin; (refine wpList_app_cls (S := fun b => S b ∧ b < w.heap.size) (base := w.heap.size) (wm := wr) (y := c) rfl _ _ 22 rfl Try.underlying22 infoCls rfl hO.out rfl (below_step Seq.way Hb1.out) (HHy.out.at Seq.way) (HBy.out.at Seq.way) (fun b h _ => ⟨h, .inl h.2⟩) ((Row.new _ [_, _] _ rfl).cell (j := 0) (by simp)) ((Row.new _ [_, _] _ rfl).cell (j := 1) (by simp)) (by have := hln.out; omega) hzr ?_))
        intro ao cap w5 hown5 hk5
        have H5 := Lib.hid hown5
        have K5 := Lib.hid (hbr.out.trans (Below.trans (Below.mono (below_step Seq.way Hb1.out) hzr) hk5.below))
        clear hown5 hk5
        go_wp2_with fail
        go_roundw
        case rel => exact ⟨k + 1, hlt, by go_num, Lib.hid (by rw [hy'.out]; simpa using H5.out), K5⟩
        case measure => simp [intOf]; omega
      | false =>
        have hn' := Lib.hid (hn.out he)
        clear hy hn he
        go_wp2_with fail
        go_roundw
        case rel => exact ⟨k + 1, hlt, by go_num, Lib.hid (by rw [hn'.out]; exact hO.out.move (below_step Seq.way Hb1.out)), Lib.hid (below_step Seq.way HB1.out)⟩
        case measure => simp [intOf]; omega
    · have hkn := Lib.hid (show k = l.length by omega)
      have hkI : ¬ (k : Int) < (l.length : Int) := by omega
      have hfin := Lib.hid (show fltL mayC (l.take k) = madeL l by rw [hkn.out, List.take_length]; rfl)
      clear hlt
      go_wp2_with fail
      go_ret
      refine ⟨_, rfl, hbr.out, ?_⟩
      rw [← hfin.out]
      exact hO.out.seq (by have := hln.out; omega) fun b _ hb => hb.imp (·.1) id
end
end Go.Proofs.Ytadbdmnngmlnhaa
