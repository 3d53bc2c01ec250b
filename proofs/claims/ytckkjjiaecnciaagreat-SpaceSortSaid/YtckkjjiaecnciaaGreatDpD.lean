/-
  R14: Has, Atom, Instance, Find, Ints, Few.
-/
import Derived.Test.YtckkjjiaecnciaaGreatDpC
import Derived.Test.YtckkjjiaecnciaaGreatMtM
namespace Go.Proofs.YtckkjjiaecnciaaGreat
open Go Go.RowKit

set_option maxHeartbeats 1600000 in
set_option maxRecDepth 100000 in
theorem HasR14_spec {S T : Nat → Prop} {w : World} {v u : Value} {l : List (List Cell)} {t : List Cell} (hl : Seq (seqE cellE) S w v l) (ht : Seq cellE T w u t) :
    Calls Tryz.prog 26 #[v, u] w (QuietV (.bool (hasT l t)) w) := by
  have HT := Lib.hid ht
  obtain ⟨ta, tc, rfl⟩ := ht.shape
  have HL := Lib.hid hl
  have hll : l.length ≤ 140737488355328 := by obtain ⟨_, _, _, _, _, h, _⟩ := hl; exact h
  obtain ⟨aa, ac, rfl⟩ := hl.shape
  clear hl ht
  go_enter Tryz.func26, Tryz.ntmps26
  go_wp2_with fail
  go_loopw [5] (fun i wr => ∃ k : Nat, k ≤ l.length ∧ i = .int .i64 k ∧ Hid (∀ j (h : j < l.length), j < k → l[j] ≠ t) ∧ Drew w wr) (fun i _ => l.length - (intOf i).toNat)
  case atStart => exact ⟨0, Nat.zero_le _, rfl, Lib.hid (fun i _ h => absurd h (Nat.not_lt_zero _)), Drew.refl _⟩
  case round =>
    obtain ⟨k, hk, rfl, hno, hdr⟩ := hrel
    have hbr := hdr.below w.heap.size
    by_cases hlt : k < l.length
    · obtain ⟨_, _, ee, -, -, -, -, x5⟩ := HL.out.at hbr
      simp only [Value.slice.injEq, true_and] at ee
      obtain ⟨rfl, rfl⟩ := ee
      obtain ⟨b1, o1, p1, n1, rfl, -, -, c0, hX⟩ := x5.seq hlt
      have hy := Lib.hid (show l[k] = t → hasT l t = true from fun h => decide_eq_true (h ▸ List.getElem_mem hlt))
      have hz := Lib.hid (show l[k] ≠ t → ∀ i (h : i < l.length), i < k + 1 → l[i] ≠ t from fun h i hi hlt => by
        by_cases e : i = k
        · subst e; exact h
        · exact hno.out i hi (by omega))
      have HX := Lib.hid hX
      obtain ⟨x, hx⟩ : ∃ x, x = l[k] := ⟨_, rfl⟩
      rw [← hx] at c0 hy hz HX
      clear hx x5 hX
      have hkl : (k : Int) < (l.length : Int) := by omega
      have hk0 : (0 : Int) ≤ (k : Int) := by omega
      have hd := Lib.hid hdr
      clear hdr
      go_wp2_with fail
      refine (SameT_spec HX.out (HT.out.at hbr)).mono ?_
      rintro e w1 ⟨rfl, hq⟩
      have hq' := Lib.hid (hd.out.trans hq)
      clear hq
      by_cases he : x = t
      · have hy' := Lib.hid (hy.out he)
        rw [decide_eq_true he]
        clear hy hz he
        go_wp2_with fail
        go_ret
        exact ⟨ret_bool hy'.out.symm, hq'.out⟩
      · have hz' := Lib.hid (hz.out he)
        rw [decide_eq_false he]
        clear hy hz he
        go_wp2_with fail
        go_roundw
        case rel => exact ⟨k + 1, hlt, by go_num, hz', hq'.out⟩
        case measure => simp [intOf]; omega
    · have hkn : ¬ (k : Int) < (l.length : Int) := by omega
      have hd := Lib.hid (show hasT l t = false from decide_eq_false fun h => by
        obtain ⟨j, hj, e⟩ := List.mem_iff_getElem.1 h
        exact hno.out j hj (by omega) e)
      go_wp2_with fail
      go_ret
      exact ⟨ret_bool hd.out.symm, hdr⟩

set_option maxHeartbeats 1600000 in
set_option maxRecDepth 100000 in
theorem AtomR14_spec {S : Nat → Prop} {w : World} {v : Value} {t : List Cell} (ht : Seq cellE S w v t) :
    Calls Tryz.prog 33 #[v] w (RetV (.bool (atomT' t)) w) := by
  have HT := Lib.hid ht
  obtain ⟨ta, tc, rfl⟩ := ht.shape
  clear ht
  go_enter Tryz.func33, Tryz.ntmps33
  go_wp2_with fail
  refine (RightR_spec HT.out).mono ?_
  rintro e w1 ⟨rfl, hb1⟩
  have B1 := Lib.hid hb1
  cases hr : rightT t with
  | false =>
    have hd := Lib.hid (show atomT' t = false by unfold atomT'; rw [hr]; rfl)
    clear hr
    go_wp2_with fail
    go_ret
    exact ⟨ret_bool hd.out.symm, B1.out⟩
  | true =>
    have hpos := (of_decide_eq_true hr : RightT t).pos
    obtain ⟨_, _, ee, -, -, -, -, x5⟩ := HT.out.at hb1
    simp only [Value.slice.injEq, true_and] at ee
    obtain ⟨rfl, rfl⟩ := ee
    obtain ⟨b, off, rfl, -, -, c0, c1, c2, ok0, ok2, -⟩ := x5.cell (k := 0) hpos
    simp only [Nat.zero_mul, Nat.add_zero] at c0
    have hd := Lib.hid (show atomT' t = decide (t[0].kind = 3) by
      unfold atomT'
      rw [hr]
      cases t with
      | nil => simp at hpos
      | cons a l => rfl)
    obtain ⟨c, hc⟩ : ∃ c, c = t[0] := ⟨_, rfl⟩
    rw [← hc] at c0 hd
    have hl0 : (0 : Int) < (t.length : Int) := by omega
    clear hr hc x5 c1 c2 ok0 ok2 hb1
    by_cases hk : c.kind = 3
    · have hk' : (c.kind == 3) = true := by simpa using hk
      have hd' := Lib.hid (show atomT' t = true by rw [hd.out]; simpa using hk)
      clear hk hd
      go_wp2_with fail
      go_ret
      exact ⟨ret_bool hd'.out.symm, B1.out⟩
    · have hk' : (c.kind == 3) = false := by simpa using hk
      have hd' := Lib.hid (show atomT' t = false by rw [hd.out]; simpa using hk)
      clear hk hd
      go_wp2_with fail
      go_ret
      exact ⟨ret_bool hd'.out.symm, B1.out⟩

set_option maxHeartbeats 1600000 in
set_option maxRecDepth 100000 in
theorem InstanceR14_spec {S T : Nat → Prop} {w : World} {v u : Value} {p t : List Cell} (hp : Seq cellE S w v p) (ht : Seq cellE T w u t) (hpl : p.length ≤ 1000) (htl : t.length ≤ 1000) :
    Calls Tryz.prog 25 #[v, u] w (RetV (.bool (instB p t)) w) := by
  have HT := Lib.hid ht
  have HP := Lib.hid hp
  obtain ⟨ta, tc, rfl⟩ := ht.shape
  obtain ⟨pa, pc, rfl⟩ := hp.shape
  clear ht hp
  go_enter Tryz.func25, Tryz.ntmps25
  go_wp2_with fail
  refine (RightR_spec HT.out).mono ?_
  rintro e w1 ⟨rfl, hb1⟩
  have B1 := Lib.hid hb1
  clear hb1
  cases hr : rightT t with
  | false =>
    have hd := Lib.hid (show instB p t = false by unfold instB; rw [hr]; rfl)
    clear hr
    go_wp2_with fail
    go_ret
    exact ⟨ret_bool hd.out.symm, B1.out⟩
  | true =>
    have Hr := Lib.hid hr
    clear hr
    go_wp2_with fail
    refine (GroundR_spec (HT.out.at B1.out) (by omega)).mono ?_
    rintro e w2 ⟨rfl, hb2⟩
    have B2 := Lib.hid (below_step hb2 B1.out)
    clear hb2
    cases hg : groundT t with
    | false =>
      have hd := Lib.hid (show instB p t = false by unfold instB; rw [hg]; simp)
      clear hg
      go_wp2_with fail
      go_ret
      exact ⟨ret_bool hd.out.symm, B2.out⟩
    | true =>
      have hd := Lib.hid (show instB p t = matchB p t by unfold instB; rw [hg, Hr.out]; rfl)
      clear hg
      go_wp2_with fail
      refine (MatchR_spec (HP.out.at B2.out) (HT.out.at B2.out) hpl (of_decide_eq_true Hr.out)).mono ?_
      rintro e w3 ⟨x, rfl, hb3⟩
      have B3 := Lib.hid (below_step hb3 B2.out)
      clear hb3
      go_wp2_with fail
      go_ret
      exact ⟨ret_bool hd.out.symm, B3.out⟩

set_option maxHeartbeats 1600000 in
set_option maxRecDepth 100000 in
theorem FindR14_spec {S T : Nat → Prop} {w : World} {v u : Value} {s : List Tab} {t : List Cell} (hs : Seq tabE S w v s) (ht : Seq cellE T w u t) (hpos : 0 < t.length) (hlen : t.length ≤ 1000000) :
    Calls Tryz.prog 19 #[v, u] w (RetV (.int .i64 (findTb s t)) w) := by
  have HT := Lib.hid ht
  obtain ⟨ta, tc, rfl⟩ := ht.shape
  have HS := Lib.hid hs
  have hll : s.length ≤ 140737488355328 := by obtain ⟨_, _, _, _, _, h, _⟩ := hs; exact h
  obtain ⟨aa, ac, rfl⟩ := hs.shape
  clear hs ht
  go_enter Tryz.func19, Tryz.ntmps19
  go_wp2_with fail
  refine (NumberR_spec HT.out hpos hlen).mono ?_
  rintro e w1 ⟨v1, rfl, hb1, hs1⟩
  have hdef := Lib.hid (show findTb s t = idxZ (fun x => decide (x.call = numT t)) s from rfl)
  obtain ⟨n, hn⟩ : ∃ n, n = numT t := ⟨_, rfl⟩
  rw [← hn] at hs1 hdef
  obtain ⟨na, nc, rfl⟩ := hs1.shape
  have HN := Lib.hid hs1
  have B1 := Lib.hid hb1
  have HS1 := Lib.hid (HS.out.at hb1)
  clear hs1 hb1 hn
  go_wp2_with fail
  go_loopw [6] (fun i wr => ∃ k : Nat, k ≤ s.length ∧ i = .int .i64 k ∧ Hid (∀ j (h : j < s.length), j < k → s[j].call ≠ n) ∧ Drew w1 wr) (fun i _ => s.length - (intOf i).toNat)
  case atStart => exact ⟨0, Nat.zero_le _, rfl, Lib.hid (fun i _ h => absurd h (Nat.not_lt_zero _)), Drew.refl _⟩
  case round =>
    obtain ⟨k, hk, rfl, hno, hdr⟩ := hrel
    have hbr := hdr.below w1.heap.size
    by_cases hlt : k < s.length
    · obtain ⟨_, _, ee, -, -, -, -, x5⟩ := HS1.out.at hbr
      simp only [Value.slice.injEq, true_and] at ee
      obtain ⟨rfl, rfl⟩ := ee
      obtain ⟨b1, o1, ca, cc, la, lc, rfl, -, -, c0, c1, hX, -⟩ := x5.tab hlt
      have hy := Lib.hid (show s[k].call = n → findTb s t = (k : Int) from fun h => by
        rw [hdef.out]
        exact idxZ_hit hlt (decide_eq_true h) fun j hj hjk => decide_eq_false (hno.out j hj hjk))
      have hz := Lib.hid (show s[k].call ≠ n → ∀ i (h : i < s.length), i < k + 1 → s[i].call ≠ n from fun h i hi hlt => by
        by_cases e : i = k
        · subst e; exact h
        · exact hno.out i hi (by omega))
      have HX := Lib.hid hX
      obtain ⟨x, hx⟩ : ∃ x, x = s[k].call := ⟨_, rfl⟩
      rw [← hx] at c0 hy hz HX
      clear hx x5 hX c1
      have hkl : (k : Int) < (s.length : Int) := by omega
      have hk0 : (0 : Int) ≤ (k : Int) := by omega
      have hd := Lib.hid hdr
      clear hdr
      go_wp2_with fail
      refine (SameT_spec HX.out (HN.out.at hbr)).mono ?_
      rintro e w2 ⟨rfl, hq⟩
      have hq' := Lib.hid (hd.out.trans hq)
      clear hq
      by_cases he : x = n
      · have hy' := Lib.hid (hy.out he)
        rw [decide_eq_true he]
        clear hy hz he
        go_wp2_with fail
        go_ret
        exact ⟨ret_int hy'.out.symm, below_step (Drew.below hq'.out _) B1.out⟩
      · have hz' := Lib.hid (hz.out he)
        rw [decide_eq_false he]
        clear hy hz he
        go_wp2_with fail
        go_roundw
        case rel => exact ⟨k + 1, hlt, by go_num, hz', hq'.out⟩
        case measure => simp [intOf]; omega
    · have hkn : ¬ (k : Int) < (s.length : Int) := by omega
      have hd := Lib.hid (show findTb s t = -1 by
        rw [hdef.out]
        exact idxZ_miss fun j hj => decide_eq_false (hno.out j hj (by omega)))
      go_wp2_with fail
      go_ret
      exact ⟨ret_int hd.out.symm, below_step (Drew.below hdr _) B1.out⟩

set_option maxHeartbeats 1600000 in
set_option maxRecDepth 100000 in
theorem IntsR14_spec {S T : Nat → Prop} {w : World} {v u : Value} {a b : List Int} (ha : Seq intE S w v a) (hb : Seq intE T w u b) :
    Calls Tryz.prog 21 #[v, u] w (QuietV (.bool (decide (a = b))) w) := by
  obtain ⟨aa, ac, rfl, -, -, hal, -, ha5⟩ := ha
  obtain ⟨ba, bc, rfl, -, -, hbl, -, hb5⟩ := hb
  go_enter Tryz.func21, Tryz.ntmps21
  by_cases hl : a.length = b.length
  · have hl' : ((a.length : Int) != (b.length : Int)) = false := by simp [hl]
    have Hl := Lib.hid hl
    clear hl
    go_wp2_with fail
    go_loopw [5] (fun i wr => ∃ k : Nat, k ≤ a.length ∧ i = .int .i64 k ∧ Hid (∀ j, j < k → a[j]? = b[j]?) ∧ Drew w wr) (fun i _ => a.length - (intOf i).toNat)
    case atStart => exact ⟨0, Nat.zero_le _, rfl, Lib.hid (by simp), Drew.refl _⟩
    case round =>
      obtain ⟨k, hk, rfl, hno, hdr⟩ := hrel
      obtain ⟨q, rfl⟩ := hdr
      by_cases hka : k < a.length
      · have hkb : k < b.length := by rw [← Hl.out]; exact hka
        obtain ⟨b1, o1, rfl, -, -, c0, -⟩ := ha5.int hka
        obtain ⟨b2, o2, rfl, -, -, d0, -⟩ := hb5.int hkb
        have hx := Lib.hid (show a[k] = b[k] → ∀ j, j < k + 1 → a[j]? = b[j]? from fun h j hj => by
          by_cases e : j = k
          · subst e; rw [List.getElem?_eq_getElem hka, List.getElem?_eq_getElem hkb, h]
          · exact hno.out j (by omega))
        have hn := Lib.hid (show a[k] ≠ b[k] → decide (a = b) = false from fun h => decide_eq_false fun e => by subst e; exact h rfl)
        clear ha5 hb5
        obtain ⟨x, hxe⟩ : ∃ x, x = a[k] := ⟨_, rfl⟩
        obtain ⟨y, hye⟩ : ∃ y, y = b[k] := ⟨_, rfl⟩
        rw [← hxe] at c0 hx hn
        rw [← hye] at d0 hx hn
        clear hxe hye
        have hkl : (k : Int) < (a.length : Int) := by omega
        have hkm : (k : Int) < (b.length : Int) := by omega
        have hk0 : (0 : Int) ≤ (k : Int) := by omega
        by_cases he : x = y
        · have hx' := Lib.hid (hx.out he)
          subst he
          clear hx hn
          go_wp2_with fail
          go_quiet (fail)
          go_wp2_with fail
          go_roundw
          case rel => exact ⟨k + 1, hka, by go_num, hx', (by repeat (first | exact Drew.of _ _ | refine Drew.drewN ?_ _))⟩
          case measure => simp [intOf]; omega
        · have hn' := Lib.hid (hn.out he)
          have he' : (x != y) = true := by simpa using he
          clear hx hn he
          go_wp2_with fail
          go_quiet (fail)
          go_wp2_with fail
          go_ret
          exact ⟨ret_bool hn'.out.symm, (by repeat (first | exact Drew.of _ _ | refine Drew.drewN ?_ _))⟩
      · obtain rfl : k = a.length := by omega
        have he := Lib.hid (show decide (a = b) = true from decide_eq_true (List.ext_getElem? fun j => by
          by_cases hj : j < a.length
          · exact hno.out j hj
          · rw [List.getElem?_eq_none (by omega), List.getElem?_eq_none (by have := Hl.out; omega)]))
        clear hno
        go_wp2_with fail
        go_ret
        exact ⟨ret_bool he.out.symm, (by repeat (first | exact Drew.of _ _ | refine Drew.drewN ?_ _))⟩
  · have hd := Lib.hid (show decide (a = b) = false from decide_eq_false fun h => hl (by rw [h]))
    have hl' : ((a.length : Int) != (b.length : Int)) = true := by simp; omega
    clear hl
    go_wp2_with fail
    go_ret
    exact ⟨ret_bool hd.out.symm, Drew.refl _⟩
end Go.Proofs.YtckkjjiaecnciaaGreat
