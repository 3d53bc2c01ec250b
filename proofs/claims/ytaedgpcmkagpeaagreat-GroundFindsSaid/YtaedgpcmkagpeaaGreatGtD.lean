/-
  Layer 16, the law: the instances that may be (Made).
-/
import Derived.Test.YtaedgpcmkagpeaaGreatGtC
namespace Go.Proofs.YtaedgpcmkagpeaaGreat
open Go Go.RowKit

theorem infoIns : (Tryz.prog.info? 41).map (fun i => (i.zero, i.size, i.bytes)) = some (some (.agg #[.slice none 0 0, .slice none 0 0, .slice none 0 0]), 3, 72) := by kernel_rfl
section
variable {P : Program} {ops : Array Oper} {rest : List Oper} {o : Oper} {a : Act} {Q : Exit → Act → World → Prop}
theorem wpList_app_ins {S Sy : Nat → Prop} {w wm : World} (hgd : o.guard = none) (s x : Operand) (t : TypeId)
    (ho : o.op = .call { callee := .builtin .append, args := #[s, x], argTypes := #[t, t] })
    {base : Nat} {e : TypeId} (ht : P.underlying t = some (.slice e)) (hi : (P.info? e).map (fun i => (i.zero, i.size, i.bytes)) = some (some (.agg #[.slice none 0 0, .slice none 0 0, .slice none 0 0]), 3, 72))
    {v : Value} {xs : List Ins} (hs : a.eval s = v) (hown : Own instE S base e wm v xs) {B c : Nat} (hx : a.eval x = .slice (some ⟨B, 0, none⟩) 1 c)
    (hbw : Below wm.heap.size wm w) {y : Ins} {vh vp vn : Value} (hh : Seq cellE Sy w vh y.head) (hp : Seq (seqE cellE) Sy w vp y.pos) (hn : Seq (seqE cellE) Sy w vn y.neg) (hS : ∀ b, Sy b → b < w.heap.size → S b ∧ (b < base ∨ wm.heap.size ≤ b))
    (hc0 : w.cell? ⟨B, 0, none⟩ = some vh) (hc1 : w.cell? ⟨B, 1, none⟩ = some vp) (hc2 : w.cell? ⟨B, 2, none⟩ = some vn) (hbytes : xs.length ≤ 1000000000000) (hbase : base ≤ wm.heap.size)
    (h : ∀ ao cap w', Own instE S base e w' (.slice ao (xs.length + 1) cap) (xs ++ [y]) → Kept base wm w w' v (.slice ao (xs.length + 1) cap) → wpList P ops Q rest (a.put o.dst (.slice ao (xs.length + 1) cap)) w') : wpList P ops Q (o :: rest) a w :=
  wpList_app1 (E := instE) (Sy := Sy) (y := y) (cs := [vh, vp, vn]) hgd s x t ho ht hi rfl hs hown hbw _ _ hx ⟨vh, vp, vn, rfl, hh, hp, hn⟩ hS
    (by
      intro j hj
      have h3 : j < 3 := hj
      rcases (show j = 0 ∨ j = 1 ∨ j = 2 by omega) with rfl | rfl | rfl
      · exact hc0
      · exact hc1
      · exact hc2) (by omega) (by simp only [maxLen]; omega) hbase
    fun ao cap w' h1 h2 h3 h4 => h ao cap w' h1 (Kept.of h2 h3 hbw hbase h4)
end

theorem all_step {α : Type} {f : α → Bool} {l : List α} {b0 : Bool} {j : Nat} (h : true = (b0 && (l.take j).all f)) (hj : j < l.length) : f l[j] = (b0 && (l.take (j + 1)).all f) := by
  rw [List.take_succ_eq_append_getElem hj, List.all_append, ← Bool.and_assoc, ← h]; simp
theorem all_stop {α : Type} {f : α → Bool} {l : List α} {b0 : Bool} {j : Nat} (h : false = (b0 && (l.take j).all f)) : (b0 && l.all f) = false := by
  conv => lhs; rw [← List.take_append_drop j l, List.all_append, ← Bool.and_assoc, ← h]
  rfl
def smallI (i : Ins) : Bool := decide (i.pos.length ≤ 10) && decide (i.neg.length ≤ 10)
def okI (i : Ins) : Bool := okT i.head && smallI i && i.pos.all okT && i.neg.all okT
def madeG (l : List Ins) : List Ins := (l.take 60).filter okI
theorem made_yes {l : List Ins} {k : Nat} (hk : k < l.length) (h : okI l[k] = true) : (l.take (k + 1)).filter okI = (l.take k).filter okI ++ [l[k]] := by
  rw [filter_snoc okI hk, if_pos h]
theorem made_no {l : List Ins} {k : Nat} (hk : k < l.length) (h : okI l[k] = false) : (l.take (k + 1)).filter okI = (l.take k).filter okI := by
  rw [filter_snoc okI hk, if_neg (by simp [h]), List.append_nil]

set_option maxHeartbeats 6400000 in
set_option maxRecDepth 100000 in
theorem MadeL_spec {S : Nat → Prop} {w : World} {v : Value} {l : List Ins} (hl : Seq instE S w v l) :
    Calls Tryz.prog 13 #[v] w (Ret (fun r w' => Seq instE (Fr S w) w' r (madeG l)) w) := by
  have HL := Lib.hid hl.bnd
  obtain ⟨aa, ac, rfl, -, -, hll, -⟩ := hl
  go_enter Tryz.func13, Tryz.ntmps13
  go_wp2_with fail
  go_loopw [3, 4] (fun o q wr => ∃ k : Nat, k ≤ l.length ∧ k ≤ 60 ∧ q = .int .i64 k ∧ Hid (Own instE (fun b => S b ∧ b < w.heap.size) w.heap.size 41 wr o ((l.take k).filter okI)) ∧ Hid (Below w.heap.size w wr)) (fun _ q _ => 60 - (intOf q).toNat)
  case atStart => exact ⟨0, Nat.zero_le _, Nat.zero_le _, rfl, Lib.hid (Own.lit0 rfl (Nat.le_refl _) rfl), Lib.hid Seq.way⟩
  case round =>
    obtain ⟨k, hk, hk6, rfl, hO, hbr⟩ := hrel
    have hzr := hbr.out.size
    have hln := Lib.hid (show ((l.take k).filter okI).length ≤ 60 from Nat.le_trans (List.length_filter_le _ _) (by rw [List.length_take]; omega))
    by_cases hlt : k < l.length ∧ k < 60
    · obtain ⟨hlt1, hlt6⟩ := hlt
      obtain ⟨_, _, ee, -, -, -, -, x5⟩ := (HL.out.at hbr.out)
      simp only [Value.slice.injEq, true_and] at ee
      obtain ⟨rfl, rfl⟩ := ee
      obtain ⟨b, off, ha, hc, pa, pc, na, nc, rfl, -, hb, c0, c1, c2, hH, hP, hN⟩ := x5.ins hlt1
      have hy := Lib.hid (fun h => made_yes (l := l) hlt1 h)
      have hn := Lib.hid (fun h => made_no (l := l) hlt1 h)
      have HH := Lib.hid hH
      have HP := Lib.hid hP
      have HN := Lib.hid hN
      obtain ⟨i, hi⟩ : ∃ i, i = l[k] := ⟨_, rfl⟩
      rw [← hi] at c0 c1 c2 hy hn HH HP HN
      obtain ⟨O, hOe⟩ : ∃ O, O = (l.take k).filter okI := ⟨_, rfl⟩
      have hOl : O.length ≤ 60 := by rw [hOe]; exact hln.out
      rw [← hOe] at hO hy hn
      obtain ⟨wy, rfl⟩ : ∃ wy, wy = wr := ⟨_, rfl⟩
      have hpl : i.pos.length ≤ 140737488355328 := by obtain ⟨_, _, _, _, _, h, _⟩ := HP.out; exact h
      have hnl : i.neg.length ≤ 140737488355328 := by obtain ⟨_, _, _, _, _, h, _⟩ := HN.out; exact h
      have Kc := Lib.hid (fun (X : World) (h : Below wy.heap.size wy X) => (⟨(h.cell (p := ⟨b, off + k * 3 + 1, none⟩) hb).trans c1, (h.cell (p := ⟨b, off + k * 3 + 2, none⟩) hb).trans c2⟩ : X.cell? ⟨b, off + k * 3 + 1, none⟩ = some (.slice pa i.pos.length pc) ∧ X.cell? ⟨b, off + k * 3 + 2, none⟩ = some (.slice na i.neg.length nc)))
      have Kh := Lib.hid (fun (X : World) (h : Below wy.heap.size wy X) => (h.cell (p := ⟨b, off + k * 3, none⟩) hb).trans c0)
      have hkl : (k : Int) < (l.length : Int) := by omega
      have hkl6 : (k : Int) < 60 := by omega
      have hk0 : (0 : Int) ≤ (k : Int) := by omega
      have hlt2 : k + 1 ≤ l.length ∧ O.length ≤ 60 := ⟨hlt1, hOl⟩
      have hk6 : k + 1 ≤ 60 := hlt6
      clear hi x5 hH hP hN c1 c2 hOe hln
      go_wp2_with fail
      refine (AtomL_spec (HH.out.at Seq.way)).mono ?_
      rintro e y0 ⟨rfl, hy0⟩
      have BB1 := Lib.hid (show Below wy.heap.size wy y0 from hy0)
      have e1 : y0.cell? ⟨b, off + k * 3 + 1, none⟩ = some (.slice pa i.pos.length pc) := (Kc.out _ BB1.out).1
      have e2 : y0.cell? ⟨b, off + k * 3 + 2, none⟩ = some (.slice na i.neg.length nc) := (Kc.out _ BB1.out).2
      have lb : b < y0.heap.size := Nat.lt_of_lt_of_le hb BB1.out.size
      clear hy0 c0
      cases ho : okT i.head with
      | false =>
        have hoi := Lib.hid (show okI i = (false && i.pos.all okT && i.neg.all okT) by unfold okI; rw [ho, Bool.false_and])
        clear ho
        go_wp2_with fail
        clear e1 e2 lb
        go_loopw [5, 6] (fun o q wz => ∃ (j : Nat) (bbA : Bool), j ≤ i.pos.length ∧ q = .int .i64 j ∧ o = .bool bbA ∧ Hid (bbA = (false && (i.pos.take j).all okT)) ∧ Hid (Below wy.heap.size wy wz)) (fun _ q _ => i.pos.length - (intOf q).toNat)
        case atStart => exact ⟨0, _, Nat.zero_le _, rfl, rfl, Lib.hid (by simp), BB1⟩
        case round =>
          obtain ⟨j, bbA, hj, rfl, rfl, hbb, BZ1⟩ := hrel
          have z1 := BZ1.out.size
          have e1 : wr.cell? ⟨b, off + k * 3 + 1, none⟩ = some (.slice pa i.pos.length pc) := (Kc.out _ BZ1.out).1
          have lb : b < wr.heap.size := Nat.lt_of_lt_of_le hb z1
          by_cases hjl : j < i.pos.length
          · cases bbA with
            | true =>
              obtain ⟨_, _, ee, -, -, -, -, x6⟩ := (HP.out.at BZ1.out)
              simp only [Value.slice.injEq, true_and] at ee
              obtain ⟨rfl, rfl⟩ := ee
              obtain ⟨b2, off2, p2, n2, rfl, -, hb2, hc2, hX⟩ := x6.seq hjl
              have HX := Lib.hid hX
              have hst := Lib.hid (all_step hbb.out hjl)
              obtain ⟨x, hx⟩ : ∃ x, x = i.pos[j] := ⟨_, rfl⟩
              rw [← hx] at hc2 HX hst
              have hjI : (j : Int) < (i.pos.length : Int) := by omega
              have hj0 : (0 : Int) ≤ (j : Int) := by omega
              clear hX x6 hx hbb
              go_wp2_with fail
              refine (AtomL_spec (HX.out.at Seq.way)).mono ?_
              rintro e y1 ⟨rfl, hy1⟩
              have HY1 := Lib.hid (below_step hy1 BZ1.out)
              clear hy1
              go_wp2_with fail
              go_roundw
              case rel => exact ⟨j + 1, _, hjl, by go_num, rfl, hst, HY1⟩
              case measure => simp [intOf]; omega
            | false =>
              have hq1 := Lib.hid (all_stop hbb.out)
              have hjI : (j : Int) < (i.pos.length : Int) := by omega
              clear hbb
              go_wp2_with fail
              clear hjl hjI e1 lb
              have BB2 := BZ1
              obtain ⟨wc, rfl⟩ : ∃ wc, wc = wr := ⟨_, rfl⟩
              go_loopw [5, 7] (fun o q wz => ∃ (j : Nat) (bbB : Bool), j ≤ i.neg.length ∧ q = .int .i64 j ∧ o = .bool bbB ∧ Hid (bbB = (false && (i.neg.take j).all okT)) ∧ Hid (Below wy.heap.size wy wz)) (fun _ q _ => i.neg.length - (intOf q).toNat)
              case atStart => exact ⟨0, _, Nat.zero_le _, rfl, rfl, Lib.hid (by simp), BB2⟩
              case round =>
                obtain ⟨j, bbB, hj, rfl, rfl, hbb, BZ2⟩ := hrel
                have z2 := BZ2.out.size
                have e1 : wr.cell? ⟨b, off + k * 3 + 2, none⟩ = some (.slice na i.neg.length nc) := (Kc.out _ BZ2.out).2
                have lb : b < wr.heap.size := Nat.lt_of_lt_of_le hb z2
                by_cases hjl : j < i.neg.length
                · cases bbB with
                  | true =>
                    obtain ⟨_, _, ee, -, -, -, -, x6⟩ := (HN.out.at BZ2.out)
                    simp only [Value.slice.injEq, true_and] at ee
                    obtain ⟨rfl, rfl⟩ := ee
                    obtain ⟨b2, off2, p2, n2, rfl, -, hb2, hc2, hX⟩ := x6.seq hjl
                    have HX := Lib.hid hX
                    have hst := Lib.hid (all_step hbb.out hjl)
                    obtain ⟨x, hx⟩ : ∃ x, x = i.neg[j] := ⟨_, rfl⟩
                    rw [← hx] at hc2 HX hst
                    have hjI : (j : Int) < (i.neg.length : Int) := by omega
                    have hj0 : (0 : Int) ≤ (j : Int) := by omega
                    clear hX x6 hx hbb
                    go_wp2_with fail
                    refine (AtomL_spec (HX.out.at Seq.way)).mono ?_
                    rintro e y1 ⟨rfl, hy1⟩
                    have HY1 := Lib.hid (below_step hy1 BZ2.out)
                    clear hy1
                    go_wp2_with fail
                    go_roundw
                    case rel => exact ⟨j + 1, _, hjl, by go_num, rfl, hst, HY1⟩
                    case measure => simp [intOf]; omega
                  | false =>
                    have hq2 := Lib.hid (all_stop hbb.out)
                    have hjI : (j : Int) < (i.neg.length : Int) := by omega
                    clear hbb
                    go_upto_region 14 with fail
                    clear hjl hjI e1 lb
                    have hok := Lib.hid (show okI i = false by rw [hoi.out, hq1.out, hq2.out])
                    clear hq1 hq2
                    have hn' := Lib.hid (hn.out hok.out)
                    clear hok hy hn
                    go_wp2_with fail
                    go_roundw
                    case rel => exact ⟨k + 1, hlt2.1, hk6, by go_num, Lib.hid (by rw [hn'.out]; exact hO.out.move BZ2.out), Lib.hid (below_step BZ2.out hbr.out)⟩
                    case measure => simp [intOf]; omega
                · obtain rfl : j = i.neg.length := by omega
                  have hjI : ¬ (i.neg.length : Int) < (i.neg.length : Int) := by omega
                  have hq2 := Lib.hid (show (false && i.neg.all okT) = bbB by have := hbb.out; rw [List.take_length] at this; exact this.symm)
                  clear hjl hbb
                  go_upto_region 14 with fail
                  clear hjI e1 lb
                  have hok := Lib.hid (show okI i = bbB by rw [hoi.out, hq1.out, hq2.out])
                  clear hq1 hq2
                  cases bbB with
                  | true =>
                    have hy' := Lib.hid (hy.out hok.out)
                    clear hok hy hn
                    have lB := Nat.lt_of_lt_of_le hb BZ2.out.size
                    have e1 : wr.cell? ⟨b, off + k * 3 + 1, none⟩ = some (.slice pa i.pos.length pc) := (Kc.out _ BZ2.out).1
                    have e2 : wr.cell? ⟨b, off + k * 3 + 2, none⟩ = some (.slice na i.neg.length nc) := (Kc.out _ BZ2.out).2
                    have e0 : wr.cell? ⟨b, off + k * 3, none⟩ = some (.slice ha i.head.length hc) := Kh.out _ BZ2.out
                    have hlQ := hlt2.2
                    go_wp2_with (at_builtin; (refine wpList_app_ins (S := fun b => S b ∧ b < w.heap.size) (base := w.heap.size) (wm := wy) (y := i) rfl _ _ 22 rfl Tryz.underlying22 infoIns rfl hO.out rfl (below_step Seq.way BZ2.out) ((HH.out.at BZ2.out).at Seq.way) ((HP.out.at BZ2.out).at Seq.way) ((HN.out.at BZ2.out).at Seq.way) (fun b h _ => ⟨h, .inl h.2⟩) ((Row.new _ [_, _, _] _ rfl).cell (j := 0) (by simp)) ((Row.new _ [_, _, _] _ rfl).cell (j := 1) (by simp)) ((Row.new _ [_, _, _] _ rfl).cell (j := 2) (by simp)) (by omega) hzr ?_))
                    intro ao cap w5 hown5 hk5
                    have H5 := Lib.hid hown5
                    have K5 := Lib.hid (hbr.out.trans (Below.trans (Below.mono (below_step Seq.way BZ2.out) hzr) hk5.below))
                    clear hown5 hk5
                    go_wp2_with fail
                    go_roundw
                    case rel => exact ⟨k + 1, hlt2.1, hk6, by go_num, Lib.hid (by rw [hy'.out]; simpa using H5.out), K5⟩
                    case measure => simp [intOf]; omega
                  | false =>
                    have hn' := Lib.hid (hn.out hok.out)
                    clear hok hy hn
                    go_wp2_with fail
                    go_roundw
                    case rel => exact ⟨k + 1, hlt2.1, hk6, by go_num, Lib.hid (by rw [hn'.out]; exact hO.out.move BZ2.out), Lib.hid (below_step BZ2.out hbr.out)⟩
                    case measure => simp [intOf]; omega
          · obtain rfl : j = i.pos.length := by omega
            have hjI : ¬ (i.pos.length : Int) < (i.pos.length : Int) := by omega
            have hq1 := Lib.hid (show (false && i.pos.all okT) = bbA by have := hbb.out; rw [List.take_length] at this; exact this.symm)
            clear hjl hbb
            go_wp2_with fail
            clear hjI e1 lb
            have BB2 := BZ1
            obtain ⟨wc, rfl⟩ : ∃ wc, wc = wr := ⟨_, rfl⟩
            go_loopw [5, 7] (fun o q wz => ∃ (j : Nat) (bbB : Bool), j ≤ i.neg.length ∧ q = .int .i64 j ∧ o = .bool bbB ∧ Hid (bbB = (bbA && (i.neg.take j).all okT)) ∧ Hid (Below wy.heap.size wy wz)) (fun _ q _ => i.neg.length - (intOf q).toNat)
            case atStart => exact ⟨0, _, Nat.zero_le _, rfl, rfl, Lib.hid (by simp), BB2⟩
            case round =>
              obtain ⟨j, bbB, hj, rfl, rfl, hbb, BZ2⟩ := hrel
              have z2 := BZ2.out.size
              have e1 : wr.cell? ⟨b, off + k * 3 + 2, none⟩ = some (.slice na i.neg.length nc) := (Kc.out _ BZ2.out).2
              have lb : b < wr.heap.size := Nat.lt_of_lt_of_le hb z2
              by_cases hjl : j < i.neg.length
              · cases bbB with
                | true =>
                  obtain ⟨_, _, ee, -, -, -, -, x6⟩ := (HN.out.at BZ2.out)
                  simp only [Value.slice.injEq, true_and] at ee
                  obtain ⟨rfl, rfl⟩ := ee
                  obtain ⟨b2, off2, p2, n2, rfl, -, hb2, hc2, hX⟩ := x6.seq hjl
                  have HX := Lib.hid hX
                  have hst := Lib.hid (all_step hbb.out hjl)
                  obtain ⟨x, hx⟩ : ∃ x, x = i.neg[j] := ⟨_, rfl⟩
                  rw [← hx] at hc2 HX hst
                  have hjI : (j : Int) < (i.neg.length : Int) := by omega
                  have hj0 : (0 : Int) ≤ (j : Int) := by omega
                  clear hX x6 hx hbb
                  go_wp2_with fail
                  refine (AtomL_spec (HX.out.at Seq.way)).mono ?_
                  rintro e y1 ⟨rfl, hy1⟩
                  have HY1 := Lib.hid (below_step hy1 BZ2.out)
                  clear hy1
                  go_wp2_with fail
                  go_roundw
                  case rel => exact ⟨j + 1, _, hjl, by go_num, rfl, hst, HY1⟩
                  case measure => simp [intOf]; omega
                | false =>
                  have hq2 := Lib.hid (all_stop hbb.out)
                  have hjI : (j : Int) < (i.neg.length : Int) := by omega
                  clear hbb
                  go_upto_region 14 with fail
                  clear hjl hjI e1 lb
                  have hok := Lib.hid (show okI i = false by rw [hoi.out, hq1.out, hq2.out])
                  clear hq1 hq2
                  have hn' := Lib.hid (hn.out hok.out)
                  clear hok hy hn
                  go_wp2_with fail
                  go_roundw
                  case rel => exact ⟨k + 1, hlt2.1, hk6, by go_num, Lib.hid (by rw [hn'.out]; exact hO.out.move BZ2.out), Lib.hid (below_step BZ2.out hbr.out)⟩
                  case measure => simp [intOf]; omega
              · obtain rfl : j = i.neg.length := by omega
                have hjI : ¬ (i.neg.length : Int) < (i.neg.length : Int) := by omega
                have hq2 := Lib.hid (show (bbA && i.neg.all okT) = bbB by have := hbb.out; rw [List.take_length] at this; exact this.symm)
                clear hjl hbb
                go_upto_region 14 with fail
                clear hjI e1 lb
                have hok := Lib.hid (show okI i = bbB by rw [hoi.out, hq1.out, hq2.out])
                clear hq1 hq2
                cases bbB with
                | true =>
                  have hy' := Lib.hid (hy.out hok.out)
                  clear hok hy hn
                  have lB := Nat.lt_of_lt_of_le hb BZ2.out.size
                  have e1 : wr.cell? ⟨b, off + k * 3 + 1, none⟩ = some (.slice pa i.pos.length pc) := (Kc.out _ BZ2.out).1
                  have e2 : wr.cell? ⟨b, off + k * 3 + 2, none⟩ = some (.slice na i.neg.length nc) := (Kc.out _ BZ2.out).2
                  have e0 : wr.cell? ⟨b, off + k * 3, none⟩ = some (.slice ha i.head.length hc) := Kh.out _ BZ2.out
                  have hlQ := hlt2.2
                  go_wp2_with (at_builtin; (refine wpList_app_ins (S := fun b => S b ∧ b < w.heap.size) (base := w.heap.size) (wm := wy) (y := i) rfl _ _ 22 rfl Tryz.underlying22 infoIns rfl hO.out rfl (below_step Seq.way BZ2.out) ((HH.out.at BZ2.out).at Seq.way) ((HP.out.at BZ2.out).at Seq.way) ((HN.out.at BZ2.out).at Seq.way) (fun b h _ => ⟨h, .inl h.2⟩) ((Row.new _ [_, _, _] _ rfl).cell (j := 0) (by simp)) ((Row.new _ [_, _, _] _ rfl).cell (j := 1) (by simp)) ((Row.new _ [_, _, _] _ rfl).cell (j := 2) (by simp)) (by omega) hzr ?_))
                  intro ao cap w5 hown5 hk5
                  have H5 := Lib.hid hown5
                  have K5 := Lib.hid (hbr.out.trans (Below.trans (Below.mono (below_step Seq.way BZ2.out) hzr) hk5.below))
                  clear hown5 hk5
                  go_wp2_with fail
                  go_roundw
                  case rel => exact ⟨k + 1, hlt2.1, hk6, by go_num, Lib.hid (by rw [hy'.out]; simpa using H5.out), K5⟩
                  case measure => simp [intOf]; omega
                | false =>
                  have hn' := Lib.hid (hn.out hok.out)
                  clear hok hy hn
                  go_wp2_with fail
                  go_roundw
                  case rel => exact ⟨k + 1, hlt2.1, hk6, by go_num, Lib.hid (by rw [hn'.out]; exact hO.out.move BZ2.out), Lib.hid (below_step BZ2.out hbr.out)⟩
                  case measure => simp [intOf]; omega
      | true =>
        by_cases h1 : i.pos.length ≤ 10
        · have h1I : (i.pos.length : Int) ≤ 10 := by omega
          have hoi := Lib.hid (show okI i = (decide (i.neg.length ≤ 10) && i.pos.all okT && i.neg.all okT) by unfold okI smallI; rw [ho, decide_eq_true h1, Bool.true_and, Bool.true_and])
          obtain ⟨bz, hbz⟩ : ∃ bz, bz = decide (i.neg.length ≤ 10) := ⟨_, rfl⟩
          have hbI : decide ((i.neg.length : Int) ≤ 10) = bz := by rw [hbz, decide_eq_decide]; omega
          rw [← hbz] at hoi
          clear ho h1 hbz
          go_wp2_with fail
          clear e1 e2 lb hbI
          go_loopw [5, 6] (fun o q wz => ∃ (j : Nat) (bbA : Bool), j ≤ i.pos.length ∧ q = .int .i64 j ∧ o = .bool bbA ∧ Hid (bbA = (bz && (i.pos.take j).all okT)) ∧ Hid (Below wy.heap.size wy wz)) (fun _ q _ => i.pos.length - (intOf q).toNat)
          case atStart => exact ⟨0, _, Nat.zero_le _, rfl, rfl, Lib.hid (by simp), BB1⟩
          case round =>
            obtain ⟨j, bbA, hj, rfl, rfl, hbb, BZ1⟩ := hrel
            have z1 := BZ1.out.size
            have e1 : wr.cell? ⟨b, off + k * 3 + 1, none⟩ = some (.slice pa i.pos.length pc) := (Kc.out _ BZ1.out).1
            have lb : b < wr.heap.size := Nat.lt_of_lt_of_le hb z1
            by_cases hjl : j < i.pos.length
            · cases bbA with
              | true =>
                obtain ⟨_, _, ee, -, -, -, -, x6⟩ := (HP.out.at BZ1.out)
                simp only [Value.slice.injEq, true_and] at ee
                obtain ⟨rfl, rfl⟩ := ee
                obtain ⟨b2, off2, p2, n2, rfl, -, hb2, hc2, hX⟩ := x6.seq hjl
                have HX := Lib.hid hX
                have hst := Lib.hid (all_step hbb.out hjl)
                obtain ⟨x, hx⟩ : ∃ x, x = i.pos[j] := ⟨_, rfl⟩
                rw [← hx] at hc2 HX hst
                have hjI : (j : Int) < (i.pos.length : Int) := by omega
                have hj0 : (0 : Int) ≤ (j : Int) := by omega
                clear hX x6 hx hbb
                go_wp2_with fail
                refine (AtomL_spec (HX.out.at Seq.way)).mono ?_
                rintro e y1 ⟨rfl, hy1⟩
                have HY1 := Lib.hid (below_step hy1 BZ1.out)
                clear hy1
                go_wp2_with fail
                go_roundw
                case rel => exact ⟨j + 1, _, hjl, by go_num, rfl, hst, HY1⟩
                case measure => simp [intOf]; omega
              | false =>
                have hq1 := Lib.hid (all_stop hbb.out)
                have hjI : (j : Int) < (i.pos.length : Int) := by omega
                clear hbb
                go_wp2_with fail
                clear hjl hjI e1 lb
                have BB2 := BZ1
                obtain ⟨wc, rfl⟩ : ∃ wc, wc = wr := ⟨_, rfl⟩
                go_loopw [5, 7] (fun o q wz => ∃ (j : Nat) (bbB : Bool), j ≤ i.neg.length ∧ q = .int .i64 j ∧ o = .bool bbB ∧ Hid (bbB = (false && (i.neg.take j).all okT)) ∧ Hid (Below wy.heap.size wy wz)) (fun _ q _ => i.neg.length - (intOf q).toNat)
                case atStart => exact ⟨0, _, Nat.zero_le _, rfl, rfl, Lib.hid (by simp), BB2⟩
                case round =>
                  obtain ⟨j, bbB, hj, rfl, rfl, hbb, BZ2⟩ := hrel
                  have z2 := BZ2.out.size
                  have e1 : wr.cell? ⟨b, off + k * 3 + 2, none⟩ = some (.slice na i.neg.length nc) := (Kc.out _ BZ2.out).2
                  have lb : b < wr.heap.size := Nat.lt_of_lt_of_le hb z2
                  by_cases hjl : j < i.neg.length
                  · cases bbB with
                    | true =>
                      obtain ⟨_, _, ee, -, -, -, -, x6⟩ := (HN.out.at BZ2.out)
                      simp only [Value.slice.injEq, true_and] at ee
                      obtain ⟨rfl, rfl⟩ := ee
                      obtain ⟨b2, off2, p2, n2, rfl, -, hb2, hc2, hX⟩ := x6.seq hjl
                      have HX := Lib.hid hX
                      have hst := Lib.hid (all_step hbb.out hjl)
                      obtain ⟨x, hx⟩ : ∃ x, x = i.neg[j] := ⟨_, rfl⟩
                      rw [← hx] at hc2 HX hst
                      have hjI : (j : Int) < (i.neg.length : Int) := by omega
                      have hj0 : (0 : Int) ≤ (j : Int) := by omega
                      clear hX x6 hx hbb
                      go_wp2_with fail
                      refine (AtomL_spec (HX.out.at Seq.way)).mono ?_
                      rintro e y1 ⟨rfl, hy1⟩
                      have HY1 := Lib.hid (below_step hy1 BZ2.out)
                      clear hy1
                      go_wp2_with fail
                      go_roundw
                      case rel => exact ⟨j + 1, _, hjl, by go_num, rfl, hst, HY1⟩
                      case measure => simp [intOf]; omega
                    | false =>
                      have hq2 := Lib.hid (all_stop hbb.out)
                      have hjI : (j : Int) < (i.neg.length : Int) := by omega
                      clear hbb
                      go_upto_region 14 with fail
                      clear hjl hjI e1 lb
                      have hok := Lib.hid (show okI i = false by rw [hoi.out, hq1.out, hq2.out])
                      clear hq1 hq2
                      have hn' := Lib.hid (hn.out hok.out)
                      clear hok hy hn
                      go_wp2_with fail
                      go_roundw
                      case rel => exact ⟨k + 1, hlt2.1, hk6, by go_num, Lib.hid (by rw [hn'.out]; exact hO.out.move BZ2.out), Lib.hid (below_step BZ2.out hbr.out)⟩
                      case measure => simp [intOf]; omega
                  · obtain rfl : j = i.neg.length := by omega
                    have hjI : ¬ (i.neg.length : Int) < (i.neg.length : Int) := by omega
                    have hq2 := Lib.hid (show (false && i.neg.all okT) = bbB by have := hbb.out; rw [List.take_length] at this; exact this.symm)
                    clear hjl hbb
                    go_upto_region 14 with fail
                    clear hjI e1 lb
                    have hok := Lib.hid (show okI i = bbB by rw [hoi.out, hq1.out, hq2.out])
                    clear hq1 hq2
                    cases bbB with
                    | true =>
                      have hy' := Lib.hid (hy.out hok.out)
                      clear hok hy hn
                      have lB := Nat.lt_of_lt_of_le hb BZ2.out.size
                      have e1 : wr.cell? ⟨b, off + k * 3 + 1, none⟩ = some (.slice pa i.pos.length pc) := (Kc.out _ BZ2.out).1
                      have e2 : wr.cell? ⟨b, off + k * 3 + 2, none⟩ = some (.slice na i.neg.length nc) := (Kc.out _ BZ2.out).2
                      have e0 : wr.cell? ⟨b, off + k * 3, none⟩ = some (.slice ha i.head.length hc) := Kh.out _ BZ2.out
                      have hlQ := hlt2.2
                      go_wp2_with (at_builtin; (refine wpList_app_ins (S := fun b => S b ∧ b < w.heap.size) (base := w.heap.size) (wm := wy) (y := i) rfl _ _ 22 rfl Tryz.underlying22 infoIns rfl hO.out rfl (below_step Seq.way BZ2.out) ((HH.out.at BZ2.out).at Seq.way) ((HP.out.at BZ2.out).at Seq.way) ((HN.out.at BZ2.out).at Seq.way) (fun b h _ => ⟨h, .inl h.2⟩) ((Row.new _ [_, _, _] _ rfl).cell (j := 0) (by simp)) ((Row.new _ [_, _, _] _ rfl).cell (j := 1) (by simp)) ((Row.new _ [_, _, _] _ rfl).cell (j := 2) (by simp)) (by omega) hzr ?_))
                      intro ao cap w5 hown5 hk5
                      have H5 := Lib.hid hown5
                      have K5 := Lib.hid (hbr.out.trans (Below.trans (Below.mono (below_step Seq.way BZ2.out) hzr) hk5.below))
                      clear hown5 hk5
                      go_wp2_with fail
                      go_roundw
                      case rel => exact ⟨k + 1, hlt2.1, hk6, by go_num, Lib.hid (by rw [hy'.out]; simpa using H5.out), K5⟩
                      case measure => simp [intOf]; omega
                    | false =>
                      have hn' := Lib.hid (hn.out hok.out)
                      clear hok hy hn
                      go_wp2_with fail
                      go_roundw
                      case rel => exact ⟨k + 1, hlt2.1, hk6, by go_num, Lib.hid (by rw [hn'.out]; exact hO.out.move BZ2.out), Lib.hid (below_step BZ2.out hbr.out)⟩
                      case measure => simp [intOf]; omega
            · obtain rfl : j = i.pos.length := by omega
              have hjI : ¬ (i.pos.length : Int) < (i.pos.length : Int) := by omega
              have hq1 := Lib.hid (show (bz && i.pos.all okT) = bbA by have := hbb.out; rw [List.take_length] at this; exact this.symm)
              clear hjl hbb
              go_wp2_with fail
              clear hjI e1 lb
              have BB2 := BZ1
              obtain ⟨wc, rfl⟩ : ∃ wc, wc = wr := ⟨_, rfl⟩
              go_loopw [5, 7] (fun o q wz => ∃ (j : Nat) (bbB : Bool), j ≤ i.neg.length ∧ q = .int .i64 j ∧ o = .bool bbB ∧ Hid (bbB = (bbA && (i.neg.take j).all okT)) ∧ Hid (Below wy.heap.size wy wz)) (fun _ q _ => i.neg.length - (intOf q).toNat)
              case atStart => exact ⟨0, _, Nat.zero_le _, rfl, rfl, Lib.hid (by simp), BB2⟩
              case round =>
                obtain ⟨j, bbB, hj, rfl, rfl, hbb, BZ2⟩ := hrel
                have z2 := BZ2.out.size
                have e1 : wr.cell? ⟨b, off + k * 3 + 2, none⟩ = some (.slice na i.neg.length nc) := (Kc.out _ BZ2.out).2
                have lb : b < wr.heap.size := Nat.lt_of_lt_of_le hb z2
                by_cases hjl : j < i.neg.length
                · cases bbB with
                  | true =>
                    obtain ⟨_, _, ee, -, -, -, -, x6⟩ := (HN.out.at BZ2.out)
                    simp only [Value.slice.injEq, true_and] at ee
                    obtain ⟨rfl, rfl⟩ := ee
                    obtain ⟨b2, off2, p2, n2, rfl, -, hb2, hc2, hX⟩ := x6.seq hjl
                    have HX := Lib.hid hX
                    have hst := Lib.hid (all_step hbb.out hjl)
                    obtain ⟨x, hx⟩ : ∃ x, x = i.neg[j] := ⟨_, rfl⟩
                    rw [← hx] at hc2 HX hst
                    have hjI : (j : Int) < (i.neg.length : Int) := by omega
                    have hj0 : (0 : Int) ≤ (j : Int) := by omega
                    clear hX x6 hx hbb
                    go_wp2_with fail
                    refine (AtomL_spec (HX.out.at Seq.way)).mono ?_
                    rintro e y1 ⟨rfl, hy1⟩
                    have HY1 := Lib.hid (below_step hy1 BZ2.out)
                    clear hy1
                    go_wp2_with fail
                    go_roundw
                    case rel => exact ⟨j + 1, _, hjl, by go_num, rfl, hst, HY1⟩
                    case measure => simp [intOf]; omega
                  | false =>
                    have hq2 := Lib.hid (all_stop hbb.out)
                    have hjI : (j : Int) < (i.neg.length : Int) := by omega
                    clear hbb
                    go_upto_region 14 with fail
                    clear hjl hjI e1 lb
                    have hok := Lib.hid (show okI i = false by rw [hoi.out, hq1.out, hq2.out])
                    clear hq1 hq2
                    have hn' := Lib.hid (hn.out hok.out)
                    clear hok hy hn
                    go_wp2_with fail
                    go_roundw
                    case rel => exact ⟨k + 1, hlt2.1, hk6, by go_num, Lib.hid (by rw [hn'.out]; exact hO.out.move BZ2.out), Lib.hid (below_step BZ2.out hbr.out)⟩
                    case measure => simp [intOf]; omega
                · obtain rfl : j = i.neg.length := by omega
                  have hjI : ¬ (i.neg.length : Int) < (i.neg.length : Int) := by omega
                  have hq2 := Lib.hid (show (bbA && i.neg.all okT) = bbB by have := hbb.out; rw [List.take_length] at this; exact this.symm)
                  clear hjl hbb
                  go_upto_region 14 with fail
                  clear hjI e1 lb
                  have hok := Lib.hid (show okI i = bbB by rw [hoi.out, hq1.out, hq2.out])
                  clear hq1 hq2
                  cases bbB with
                  | true =>
                    have hy' := Lib.hid (hy.out hok.out)
                    clear hok hy hn
                    have lB := Nat.lt_of_lt_of_le hb BZ2.out.size
                    have e1 : wr.cell? ⟨b, off + k * 3 + 1, none⟩ = some (.slice pa i.pos.length pc) := (Kc.out _ BZ2.out).1
                    have e2 : wr.cell? ⟨b, off + k * 3 + 2, none⟩ = some (.slice na i.neg.length nc) := (Kc.out _ BZ2.out).2
                    have e0 : wr.cell? ⟨b, off + k * 3, none⟩ = some (.slice ha i.head.length hc) := Kh.out _ BZ2.out
                    have hlQ := hlt2.2
                    go_wp2_with (at_builtin; (refine wpList_app_ins (S := fun b => S b ∧ b < w.heap.size) (base := w.heap.size) (wm := wy) (y := i) rfl _ _ 22 rfl Tryz.underlying22 infoIns rfl hO.out rfl (below_step Seq.way BZ2.out) ((HH.out.at BZ2.out).at Seq.way) ((HP.out.at BZ2.out).at Seq.way) ((HN.out.at BZ2.out).at Seq.way) (fun b h _ => ⟨h, .inl h.2⟩) ((Row.new _ [_, _, _] _ rfl).cell (j := 0) (by simp)) ((Row.new _ [_, _, _] _ rfl).cell (j := 1) (by simp)) ((Row.new _ [_, _, _] _ rfl).cell (j := 2) (by simp)) (by omega) hzr ?_))
                    intro ao cap w5 hown5 hk5
                    have H5 := Lib.hid hown5
                    have K5 := Lib.hid (hbr.out.trans (Below.trans (Below.mono (below_step Seq.way BZ2.out) hzr) hk5.below))
                    clear hown5 hk5
                    go_wp2_with fail
                    go_roundw
                    case rel => exact ⟨k + 1, hlt2.1, hk6, by go_num, Lib.hid (by rw [hy'.out]; simpa using H5.out), K5⟩
                    case measure => simp [intOf]; omega
                  | false =>
                    have hn' := Lib.hid (hn.out hok.out)
                    clear hok hy hn
                    go_wp2_with fail
                    go_roundw
                    case rel => exact ⟨k + 1, hlt2.1, hk6, by go_num, Lib.hid (by rw [hn'.out]; exact hO.out.move BZ2.out), Lib.hid (below_step BZ2.out hbr.out)⟩
                    case measure => simp [intOf]; omega
        · have h1I : ¬ (i.pos.length : Int) ≤ 10 := by omega
          have hoi := Lib.hid (show okI i = (false && i.pos.all okT && i.neg.all okT) by unfold okI smallI; rw [ho, decide_eq_false h1]; rfl)
          clear ho h1
          go_wp2_with fail
          clear e1 e2 lb
          go_loopw [5, 6] (fun o q wz => ∃ (j : Nat) (bbA : Bool), j ≤ i.pos.length ∧ q = .int .i64 j ∧ o = .bool bbA ∧ Hid (bbA = (false && (i.pos.take j).all okT)) ∧ Hid (Below wy.heap.size wy wz)) (fun _ q _ => i.pos.length - (intOf q).toNat)
          case atStart => exact ⟨0, _, Nat.zero_le _, rfl, rfl, Lib.hid (by simp), BB1⟩
          case round =>
            obtain ⟨j, bbA, hj, rfl, rfl, hbb, BZ1⟩ := hrel
            have z1 := BZ1.out.size
            have e1 : wr.cell? ⟨b, off + k * 3 + 1, none⟩ = some (.slice pa i.pos.length pc) := (Kc.out _ BZ1.out).1
            have lb : b < wr.heap.size := Nat.lt_of_lt_of_le hb z1
            by_cases hjl : j < i.pos.length
            · cases bbA with
              | true =>
                obtain ⟨_, _, ee, -, -, -, -, x6⟩ := (HP.out.at BZ1.out)
                simp only [Value.slice.injEq, true_and] at ee
                obtain ⟨rfl, rfl⟩ := ee
                obtain ⟨b2, off2, p2, n2, rfl, -, hb2, hc2, hX⟩ := x6.seq hjl
                have HX := Lib.hid hX
                have hst := Lib.hid (all_step hbb.out hjl)
                obtain ⟨x, hx⟩ : ∃ x, x = i.pos[j] := ⟨_, rfl⟩
                rw [← hx] at hc2 HX hst
                have hjI : (j : Int) < (i.pos.length : Int) := by omega
                have hj0 : (0 : Int) ≤ (j : Int) := by omega
                clear hX x6 hx hbb
                go_wp2_with fail
                refine (AtomL_spec (HX.out.at Seq.way)).mono ?_
                rintro e y1 ⟨rfl, hy1⟩
                have HY1 := Lib.hid (below_step hy1 BZ1.out)
                clear hy1
                go_wp2_with fail
                go_roundw
                case rel => exact ⟨j + 1, _, hjl, by go_num, rfl, hst, HY1⟩
                case measure => simp [intOf]; omega
              | false =>
                have hq1 := Lib.hid (all_stop hbb.out)
                have hjI : (j : Int) < (i.pos.length : Int) := by omega
                clear hbb
                go_wp2_with fail
                clear hjl hjI e1 lb
                have BB2 := BZ1
                obtain ⟨wc, rfl⟩ : ∃ wc, wc = wr := ⟨_, rfl⟩
                go_loopw [5, 7] (fun o q wz => ∃ (j : Nat) (bbB : Bool), j ≤ i.neg.length ∧ q = .int .i64 j ∧ o = .bool bbB ∧ Hid (bbB = (false && (i.neg.take j).all okT)) ∧ Hid (Below wy.heap.size wy wz)) (fun _ q _ => i.neg.length - (intOf q).toNat)
                case atStart => exact ⟨0, _, Nat.zero_le _, rfl, rfl, Lib.hid (by simp), BB2⟩
                case round =>
                  obtain ⟨j, bbB, hj, rfl, rfl, hbb, BZ2⟩ := hrel
                  have z2 := BZ2.out.size
                  have e1 : wr.cell? ⟨b, off + k * 3 + 2, none⟩ = some (.slice na i.neg.length nc) := (Kc.out _ BZ2.out).2
                  have lb : b < wr.heap.size := Nat.lt_of_lt_of_le hb z2
                  by_cases hjl : j < i.neg.length
                  · cases bbB with
                    | true =>
                      obtain ⟨_, _, ee, -, -, -, -, x6⟩ := (HN.out.at BZ2.out)
                      simp only [Value.slice.injEq, true_and] at ee
                      obtain ⟨rfl, rfl⟩ := ee
                      obtain ⟨b2, off2, p2, n2, rfl, -, hb2, hc2, hX⟩ := x6.seq hjl
                      have HX := Lib.hid hX
                      have hst := Lib.hid (all_step hbb.out hjl)
                      obtain ⟨x, hx⟩ : ∃ x, x = i.neg[j] := ⟨_, rfl⟩
                      rw [← hx] at hc2 HX hst
                      have hjI : (j : Int) < (i.neg.length : Int) := by omega
                      have hj0 : (0 : Int) ≤ (j : Int) := by omega
                      clear hX x6 hx hbb
                      go_wp2_with fail
                      refine (AtomL_spec (HX.out.at Seq.way)).mono ?_
                      rintro e y1 ⟨rfl, hy1⟩
                      have HY1 := Lib.hid (below_step hy1 BZ2.out)
                      clear hy1
                      go_wp2_with fail
                      go_roundw
                      case rel => exact ⟨j + 1, _, hjl, by go_num, rfl, hst, HY1⟩
                      case measure => simp [intOf]; omega
                    | false =>
                      have hq2 := Lib.hid (all_stop hbb.out)
                      have hjI : (j : Int) < (i.neg.length : Int) := by omega
                      clear hbb
                      go_upto_region 14 with fail
                      clear hjl hjI e1 lb
                      have hok := Lib.hid (show okI i = false by rw [hoi.out, hq1.out, hq2.out])
                      clear hq1 hq2
                      have hn' := Lib.hid (hn.out hok.out)
                      clear hok hy hn
                      go_wp2_with fail
                      go_roundw
                      case rel => exact ⟨k + 1, hlt2.1, hk6, by go_num, Lib.hid (by rw [hn'.out]; exact hO.out.move BZ2.out), Lib.hid (below_step BZ2.out hbr.out)⟩
                      case measure => simp [intOf]; omega
                  · obtain rfl : j = i.neg.length := by omega
                    have hjI : ¬ (i.neg.length : Int) < (i.neg.length : Int) := by omega
                    have hq2 := Lib.hid (show (false && i.neg.all okT) = bbB by have := hbb.out; rw [List.take_length] at this; exact this.symm)
                    clear hjl hbb
                    go_upto_region 14 with fail
                    clear hjI e1 lb
                    have hok := Lib.hid (show okI i = bbB by rw [hoi.out, hq1.out, hq2.out])
                    clear hq1 hq2
                    cases bbB with
                    | true =>
                      have hy' := Lib.hid (hy.out hok.out)
                      clear hok hy hn
                      have lB := Nat.lt_of_lt_of_le hb BZ2.out.size
                      have e1 : wr.cell? ⟨b, off + k * 3 + 1, none⟩ = some (.slice pa i.pos.length pc) := (Kc.out _ BZ2.out).1
                      have e2 : wr.cell? ⟨b, off + k * 3 + 2, none⟩ = some (.slice na i.neg.length nc) := (Kc.out _ BZ2.out).2
                      have e0 : wr.cell? ⟨b, off + k * 3, none⟩ = some (.slice ha i.head.length hc) := Kh.out _ BZ2.out
                      have hlQ := hlt2.2
                      go_wp2_with (at_builtin; (refine wpList_app_ins (S := fun b => S b ∧ b < w.heap.size) (base := w.heap.size) (wm := wy) (y := i) rfl _ _ 22 rfl Tryz.underlying22 infoIns rfl hO.out rfl (below_step Seq.way BZ2.out) ((HH.out.at BZ2.out).at Seq.way) ((HP.out.at BZ2.out).at Seq.way) ((HN.out.at BZ2.out).at Seq.way) (fun b h _ => ⟨h, .inl h.2⟩) ((Row.new _ [_, _, _] _ rfl).cell (j := 0) (by simp)) ((Row.new _ [_, _, _] _ rfl).cell (j := 1) (by simp)) ((Row.new _ [_, _, _] _ rfl).cell (j := 2) (by simp)) (by omega) hzr ?_))
                      intro ao cap w5 hown5 hk5
                      have H5 := Lib.hid hown5
                      have K5 := Lib.hid (hbr.out.trans (Below.trans (Below.mono (below_step Seq.way BZ2.out) hzr) hk5.below))
                      clear hown5 hk5
                      go_wp2_with fail
                      go_roundw
                      case rel => exact ⟨k + 1, hlt2.1, hk6, by go_num, Lib.hid (by rw [hy'.out]; simpa using H5.out), K5⟩
                      case measure => simp [intOf]; omega
                    | false =>
                      have hn' := Lib.hid (hn.out hok.out)
                      clear hok hy hn
                      go_wp2_with fail
                      go_roundw
                      case rel => exact ⟨k + 1, hlt2.1, hk6, by go_num, Lib.hid (by rw [hn'.out]; exact hO.out.move BZ2.out), Lib.hid (below_step BZ2.out hbr.out)⟩
                      case measure => simp [intOf]; omega
            · obtain rfl : j = i.pos.length := by omega
              have hjI : ¬ (i.pos.length : Int) < (i.pos.length : Int) := by omega
              have hq1 := Lib.hid (show (false && i.pos.all okT) = bbA by have := hbb.out; rw [List.take_length] at this; exact this.symm)
              clear hjl hbb
              go_wp2_with fail
              clear hjI e1 lb
              have BB2 := BZ1
              obtain ⟨wc, rfl⟩ : ∃ wc, wc = wr := ⟨_, rfl⟩
              go_loopw [5, 7] (fun o q wz => ∃ (j : Nat) (bbB : Bool), j ≤ i.neg.length ∧ q = .int .i64 j ∧ o = .bool bbB ∧ Hid (bbB = (bbA && (i.neg.take j).all okT)) ∧ Hid (Below wy.heap.size wy wz)) (fun _ q _ => i.neg.length - (intOf q).toNat)
              case atStart => exact ⟨0, _, Nat.zero_le _, rfl, rfl, Lib.hid (by simp), BB2⟩
              case round =>
                obtain ⟨j, bbB, hj, rfl, rfl, hbb, BZ2⟩ := hrel
                have z2 := BZ2.out.size
                have e1 : wr.cell? ⟨b, off + k * 3 + 2, none⟩ = some (.slice na i.neg.length nc) := (Kc.out _ BZ2.out).2
                have lb : b < wr.heap.size := Nat.lt_of_lt_of_le hb z2
                by_cases hjl : j < i.neg.length
                · cases bbB with
                  | true =>
                    obtain ⟨_, _, ee, -, -, -, -, x6⟩ := (HN.out.at BZ2.out)
                    simp only [Value.slice.injEq, true_and] at ee
                    obtain ⟨rfl, rfl⟩ := ee
                    obtain ⟨b2, off2, p2, n2, rfl, -, hb2, hc2, hX⟩ := x6.seq hjl
                    have HX := Lib.hid hX
                    have hst := Lib.hid (all_step hbb.out hjl)
                    obtain ⟨x, hx⟩ : ∃ x, x = i.neg[j] := ⟨_, rfl⟩
                    rw [← hx] at hc2 HX hst
                    have hjI : (j : Int) < (i.neg.length : Int) := by omega
                    have hj0 : (0 : Int) ≤ (j : Int) := by omega
                    clear hX x6 hx hbb
                    go_wp2_with fail
                    refine (AtomL_spec (HX.out.at Seq.way)).mono ?_
                    rintro e y1 ⟨rfl, hy1⟩
                    have HY1 := Lib.hid (below_step hy1 BZ2.out)
                    clear hy1
                    go_wp2_with fail
                    go_roundw
                    case rel => exact ⟨j + 1, _, hjl, by go_num, rfl, hst, HY1⟩
                    case measure => simp [intOf]; omega
                  | false =>
                    have hq2 := Lib.hid (all_stop hbb.out)
                    have hjI : (j : Int) < (i.neg.length : Int) := by omega
                    clear hbb
                    go_upto_region 14 with fail
                    clear hjl hjI e1 lb
                    have hok := Lib.hid (show okI i = false by rw [hoi.out, hq1.out, hq2.out])
                    clear hq1 hq2
                    have hn' := Lib.hid (hn.out hok.out)
                    clear hok hy hn
                    go_wp2_with fail
                    go_roundw
                    case rel => exact ⟨k + 1, hlt2.1, hk6, by go_num, Lib.hid (by rw [hn'.out]; exact hO.out.move BZ2.out), Lib.hid (below_step BZ2.out hbr.out)⟩
                    case measure => simp [intOf]; omega
                · obtain rfl : j = i.neg.length := by omega
                  have hjI : ¬ (i.neg.length : Int) < (i.neg.length : Int) := by omega
                  have hq2 := Lib.hid (show (bbA && i.neg.all okT) = bbB by have := hbb.out; rw [List.take_length] at this; exact this.symm)
                  clear hjl hbb
                  go_upto_region 14 with fail
                  clear hjI e1 lb
                  have hok := Lib.hid (show okI i = bbB by rw [hoi.out, hq1.out, hq2.out])
                  clear hq1 hq2
                  cases bbB with
                  | true =>
                    have hy' := Lib.hid (hy.out hok.out)
                    clear hok hy hn
                    have lB := Nat.lt_of_lt_of_le hb BZ2.out.size
                    have e1 : wr.cell? ⟨b, off + k * 3 + 1, none⟩ = some (.slice pa i.pos.length pc) := (Kc.out _ BZ2.out).1
                    have e2 : wr.cell? ⟨b, off + k * 3 + 2, none⟩ = some (.slice na i.neg.length nc) := (Kc.out _ BZ2.out).2
                    have e0 : wr.cell? ⟨b, off + k * 3, none⟩ = some (.slice ha i.head.length hc) := Kh.out _ BZ2.out
                    have hlQ := hlt2.2
                    go_wp2_with (at_builtin; (refine wpList_app_ins (S := fun b => S b ∧ b < w.heap.size) (base := w.heap.size) (wm := wy) (y := i) rfl _ _ 22 rfl Tryz.underlying22 infoIns rfl hO.out rfl (below_step Seq.way BZ2.out) ((HH.out.at BZ2.out).at Seq.way) ((HP.out.at BZ2.out).at Seq.way) ((HN.out.at BZ2.out).at Seq.way) (fun b h _ => ⟨h, .inl h.2⟩) ((Row.new _ [_, _, _] _ rfl).cell (j := 0) (by simp)) ((Row.new _ [_, _, _] _ rfl).cell (j := 1) (by simp)) ((Row.new _ [_, _, _] _ rfl).cell (j := 2) (by simp)) (by omega) hzr ?_))
                    intro ao cap w5 hown5 hk5
                    have H5 := Lib.hid hown5
                    have K5 := Lib.hid (hbr.out.trans (Below.trans (Below.mono (below_step Seq.way BZ2.out) hzr) hk5.below))
                    clear hown5 hk5
                    go_wp2_with fail
                    go_roundw
                    case rel => exact ⟨k + 1, hlt2.1, hk6, by go_num, Lib.hid (by rw [hy'.out]; simpa using H5.out), K5⟩
                    case measure => simp [intOf]; omega
                  | false =>
                    have hn' := Lib.hid (hn.out hok.out)
                    clear hok hy hn
                    go_wp2_with fail
                    go_roundw
                    case rel => exact ⟨k + 1, hlt2.1, hk6, by go_num, Lib.hid (by rw [hn'.out]; exact hO.out.move BZ2.out), Lib.hid (below_step BZ2.out hbr.out)⟩
                    case measure => simp [intOf]; omega
    · have hfin := Lib.hid (show (l.take k).filter okI = madeG l by
        unfold madeG
        rcases Nat.lt_or_ge k 60 with h6 | h6
        · rw [List.take_of_length_le (show l.length ≤ k by omega), List.take_of_length_le (show l.length ≤ 60 by omega)]
        · rw [show k = 60 by omega])
      by_cases h6 : k < l.length
      · have hkI : (k : Int) < (l.length : Int) := by omega
        have hk60 : ¬ (k : Int) < 60 := by omega
        clear hlt h6
        go_wp2_with fail
        go_ret
        refine ⟨_, rfl, hbr.out, ?_⟩
        rw [← hfin.out]
        exact hO.out.seq (by have := hln.out; omega) fun b _ hb => hb.imp (·.1) id
      · have hkI : ¬ (k : Int) < (l.length : Int) := by omega
        clear hlt h6
        go_wp2_with fail
        go_ret
        refine ⟨_, rfl, hbr.out, ?_⟩
        rw [← hfin.out]
        exact hO.out.seq (by have := hln.out; omega) fun b _ hb => hb.imp (·.1) id
end Go.Proofs.YtaedgpcmkagpeaaGreat
