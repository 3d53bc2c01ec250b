/-
  Layer 16, the law: names, atoms that may be, programs too great; rows of numbers alike (R07.Ints).
-/
import Derived.Test.YtaedgpcmkagpeaaGreatGtB
import Derived.BigQuiet
namespace Go.Proofs.YtaedgpcmkagpeaaGreat
open Go Go.RowKit

set_option maxHeartbeats 1600000 in
set_option maxRecDepth 100000 in
theorem IntsR_spec {S T : Nat → Prop} {w : World} {v u : Value} {a b : List Int} (ha : Seq intE S w v a) (hb : Seq intE T w u b) :
    Calls Tryz.prog 21 #[v, u] w (QuietV (.bool (decide (a = b))) w) := by
  obtain ⟨aa, ac, rfl, -, -, hal, -, ha5⟩ := ha
  obtain ⟨ba, bc, rfl, -, -, hbl, -, hb5⟩ := hb
  go_enter Tryz.func21, Tryz.ntmps21
  by_cases hl : a.length = b.length
  · have hl' : ((a.length : Int) != (b.length : Int)) = false := by simp [hl]
    have Hl := Lib.hid hl
    clear hl
    go_wp2_with fail
    go_loopw [5] (fun i wr => ∃ k : Nat, k ≤ a.length ∧ i = .int .i64 k ∧ Hid (∀ j, j < k → a[j]? = b[j]?) ∧ Drew w wr) (fun i _ => a.length - (intOf i).toNat)
    case atStart => exact ⟨0, Nat.zero_le _, rfl, Lib.hid (by simp), Drew.refl _⟩
    case round =>
      obtain ⟨k, hk, rfl, hno, hdr⟩ := hrel
      obtain ⟨q, rfl⟩ := hdr
      by_cases hka : k < a.length
      · have hkb : k < b.length := by rw [← Hl.out]; exact hka
        obtain ⟨b1, o1, rfl, -, -, c0, -⟩ := ha5.int hka
        obtain ⟨b2, o2, rfl, -, -, d0, -⟩ := hb5.int hkb
        have hx := Lib.hid (show a[k] = b[k] → ∀ j, j < k + 1 → a[j]? = b[j]? from fun h j hj => by
          by_cases e : j = k
          · subst e; rw [List.getElem?_eq_getElem hka, List.getElem?_eq_getElem hkb, h]
          · exact hno.out j (by omega))
        have hn := Lib.hid (show a[k] ≠ b[k] → decide (a = b) = false from fun h => decide_eq_false fun e => by subst e; exact h rfl)
        clear ha5 hb5
        obtain ⟨x, hxe⟩ : ∃ x, x = a[k] := ⟨_, rfl⟩
        obtain ⟨y, hye⟩ : ∃ y, y = b[k] := ⟨_, rfl⟩
        rw [← hxe] at c0 hx hn
        rw [← hye] at d0 hx hn
        clear hxe hye
        have hkl : (k : Int) < (a.length : Int) := by omega
        have hkm : (k : Int) < (b.length : Int) := by omega
        have hk0 : (0 : Int) ≤ (k : Int) := by omega
        by_cases he : x = y
        · have hx' := Lib.hid (hx.out he)
          subst he
          clear hx hn
          go_wp2_with fail
          go_quiet (fail)
          go_wp2_with fail
          go_roundw
          case rel => exact ⟨k + 1, hka, by go_num, hx', (by repeat (first | exact Drew.of _ _ | refine Drew.drewN ?_ _))⟩
          case measure => simp [intOf]; omega
        · have hn' := Lib.hid (hn.out he)
          have hne : (x != y) = true := by simp [he]
          clear hx hn he
          go_wp2_with fail
          go_quiet (fail)
          go_wp2_with fail
          go_ret
          exact ⟨ret_bool hn'.out.symm, (by repeat (first | exact Drew.of _ _ | refine Drew.drewN ?_ _))⟩
      · obtain rfl : k = a.length := by omega
        have he := Lib.hid (show decide (a = b) = true from decide_eq_true (List.ext_getElem? fun j => by
          by_cases hj : j < a.length
          · exact hno.out j hj
          · rw [List.getElem?_eq_none (by omega), List.getElem?_eq_none (by have := Hl.out; omega)]))
        clear hno
        go_wp2_with fail
        go_ret
        exact ⟨ret_bool he.out.symm, (by repeat (first | exact Drew.of _ _ | refine Drew.drewN ?_ _))⟩
  · have hd := Lib.hid (show decide (a = b) = false from decide_eq_false fun h => hl (by rw [h]))
    have hl' : ((a.length : Int) != (b.length : Int)) = true := by simp; omega
    clear hl
    go_wp2_with fail
    go_ret
    exact ⟨ret_bool hd.out.symm, Drew.refl _⟩


/-! ### name -/
def nameT (s : ByteArray) : List Cell := [⟨3, s, 0⟩]
set_option maxHeartbeats 1600000 in
theorem nameL_spec {w : World} {s : ByteArray} (hs : s.size ≤ 1000) :
    Calls Tryz.prog 31 #[.string s] w (Ret (fun r w' => Seq cellE (fun b => w.heap.size ≤ b) w' r (nameT s)) w) := by
  have H := Lib.hid (show Seq cellE (fun b => w.heap.size ≤ b) (w.alloc (.cells #[.int .i64 3, .string s, .int .i64 0] 67)) (.slice (some ⟨w.heap.size, 0, none⟩) 1 1) (nameT s) by
    refine Row.seq (vs := [.int .i64 3, .string s, .int .i64 0]) (Row.new w [_, _, _] _ rfl) rfl (Nat.le_refl _) (by unfold maxLen; omega) (by simp [nameT]) (Nat.le_refl _) fun k x hk => ?_
    obtain rfl : k = 0 := by have := (List.getElem?_eq_some_iff.1 hk).1; simp [nameT] at this; omega
    simp [nameT] at hk; subst hk
    exact ⟨_, ⟨rfl, ⟨by show _ ≤ (3 : Int); decide, by show (3 : Int) ≤ _; decide⟩, ⟨by show _ ≤ (0 : Int); decide, by show (0 : Int) ≤ _; decide⟩, by show s.size ≤ _; omega⟩, fun j _ => by simp⟩)
  go_enter Tryz.func31, Tryz.ntmps31
  go_wp2_with fail
  go_ret
  exact ⟨_, rfl, Seq.way, H.out⟩

/-! ### Atom -/
def okT (t : List Cell) : Bool := decide (t.length ≤ 200) && atomB t && groundT t
theorem okT_iff {t : List Cell} : okT t = true ↔ t.length ≤ 200 ∧ atomG t = true := by
  unfold okT atomB atomG
  simp only [Bool.and_eq_true, decide_eq_true_eq]
  constructor
  · rintro ⟨⟨h1, h2, h3⟩, h4⟩; exact ⟨h1, ⟨h2, h3⟩, h4⟩
  · rintro ⟨h1, ⟨h2, h3⟩, h4⟩; exact ⟨⟨h1, h2, h3⟩, h4⟩
set_option maxHeartbeats 1600000 in
theorem AtomL_spec {S : Nat → Prop} {w : World} {v : Value} {t : List Cell} (ht : Seq cellE S w v t) :
    Calls Tryz.prog 32 #[v] w (RetV (.bool (okT t)) w) := by
  have HT := Lib.hid ht
  obtain ⟨ta, tc, rfl, -, -, htl, -⟩ := ht
  go_enter Tryz.func32, Tryz.ntmps32
  by_cases h2 : t.length ≤ 200
  · have h2I : (t.length : Int) ≤ 200 := by omega
    have hd : okT t = (atomB t && groundT t) := by unfold okT; rw [decide_eq_true h2, Bool.true_and]
    have hl9 : t.length ≤ 1000000000 := by omega
    clear h2
    go_wp2_with fail
    refine (AtomR07_spec (HT.out.at Seq.way)).mono ?_
    rintro e w1 ⟨rfl, hb⟩
    have Hb := Lib.hid hb
    clear hb
    cases ha : atomB t with
    | false =>
      have he := Lib.hid (show okT t = false by rw [hd, ha]; rfl)
      clear hd ha
      go_wp2_with fail
      go_ret
      exact ⟨ret_bool he.out.symm, Hb.out⟩
    | true =>
      have he := Lib.hid (show okT t = groundT t by rw [hd, ha, Bool.true_and])
      clear hd ha
      go_wp2_with fail
      refine (GroundR_spec (HT.out.at Hb.out) hl9).mono ?_
      rintro e w2 ⟨rfl, hb⟩
      have Hb2 := Lib.hid (below_step hb Hb.out)
      clear hb
      go_wp2_with fail
      go_ret
      exact ⟨ret_bool he.out.symm, Hb2.out⟩
  · have h2I : ¬ (t.length : Int) ≤ 200 := by omega
    have he := Lib.hid (show okT t = false by unfold okT; rw [decide_eq_false h2]; rfl)
    clear h2
    go_wp2_with fail
    go_ret
    exact ⟨ret_bool he.out.symm, Below.refl _ _⟩

/-! ### Great -/
def bigR (r : Rule) : Bool := decide (80 < r.pos.length) || decide (80 < r.neg.length)
def bigG (g : Prog) : Bool := decide (80 < g.atoms.length) || decide (200 < g.rules.length) || (g.atoms.any fun t => decide (200 < t.length)) || g.rules.any bigR
theorem bigG_no {g : Prog} (h1 : g.atoms.length ≤ 80) (h2 : g.rules.length ≤ 200) (h3 : ∀ (i : Nat) (t : List Cell), g.atoms[i]? = some t → ¬ 200 < t.length) (h4 : ∀ (i : Nat) (r : Rule), g.rules[i]? = some r → bigR r = false) : bigG g = false := by
  unfold bigG
  rw [decide_eq_false (by omega), decide_eq_false (by omega), Bool.false_or, Bool.false_or, Bool.or_eq_false_iff]
  constructor
  · refine List.any_eq_false.2 fun t ht => ?_
    obtain ⟨i, hi⟩ := List.getElem?_of_mem ht
    simpa using h3 i t hi
  · refine List.any_eq_false.2 fun r hr => ?_
    obtain ⟨i, hi⟩ := List.getElem?_of_mem hr
    simpa using h4 i r hi
theorem bigG_t {g : Prog} {k : Nat} (hk : k < g.atoms.length) (h : 200 < g.atoms[k].length) : bigG g = true := by
  unfold bigG
  rw [show (g.atoms.any fun t => decide (200 < t.length)) = true from List.any_eq_true.2 ⟨_, List.getElem_mem hk, decide_eq_true h⟩, Bool.or_true, Bool.true_or]
theorem bigG_r {g : Prog} {k : Nat} (hk : k < g.rules.length) (h : bigR g.rules[k] = true) : bigG g = true := by
  unfold bigG
  rw [show g.rules.any bigR = true from List.any_eq_true.2 ⟨_, List.getElem_mem hk, h⟩, Bool.or_true]
structure FewG (g : Prog) : Prop where
  a : g.atoms.length ≤ 80
  r : g.rules.length ≤ 200
  t : ∀ t ∈ g.atoms, t.length ≤ 200
  p : ∀ r ∈ g.rules, r.pos.length ≤ 80 ∧ r.neg.length ≤ 80
theorem few_of {g : Prog} (h : bigG g = false) : FewG g := by
  unfold bigG at h
  simp only [Bool.or_eq_false_iff, decide_eq_false_iff_not, Nat.not_lt] at h
  obtain ⟨⟨⟨h1, h2⟩, h3⟩, h4⟩ := h
  refine ⟨h1, h2, fun t ht => ?_, fun r hr => ?_⟩
  · have := List.any_eq_false.1 h3 t ht; simpa using this
  · have := List.any_eq_false.1 h4 r hr
    unfold bigR at this
    simpa using this
set_option maxHeartbeats 3200000 in
set_option maxRecDepth 100000 in
theorem GreatL_spec {S : Nat → Prop} {w : World} {v : Value} {g : Prog} (hg : ProgV S w v g) :
    Calls Tryz.prog 12 #[v] w (RetV (.bool (bigG g)) w) := by
  obtain ⟨va, vr, rfl, hA, hR⟩ := hg
  have HA := Lib.hid hA
  have HRl := Lib.hid hR
  obtain ⟨aa, ac, rfl, -, -, hal, -⟩ := hA
  obtain ⟨ra, rc, rfl, -, -, hrl, -⟩ := hR
  obtain ⟨W, hW⟩ : ∃ W, W = w.alloc (.cells #[.slice aa g.atoms.length ac, .slice ra g.rules.length rc] 26) := ⟨_, rfl⟩
  have HB := Lib.hid (show Below w.heap.size w W by rw [hW]; exact Seq.way)
  have HP := Lib.hid (show Row 26 W w.heap.size [.slice aa g.atoms.length ac, .slice ra g.rules.length rc] by rw [hW]; exact Row.new w [_, _] _ rfl)
  have HW := Lib.hid hW
  clear hW
  have d0 := HP.out.cell (j := 0) (by simp)
  have d1 := HP.out.cell (j := 1) (by simp)
  have lP := HP.out.lt
  simp only [List.getElem_cons_zero, List.getElem_cons_succ] at d0 d1
  go_enter Tryz.func12, Tryz.ntmps12
  go_upto_region 1 with fail
  rw [← HW.out]
  by_cases h8 : 80 < g.atoms.length
  · have he := Lib.hid (show bigG g = true by unfold bigG; rw [decide_eq_true h8]; rfl)
    have hI : (g.atoms.length : Int) > 80 := by omega
    clear h8
    go_wp2_with fail
    go_ret
    exact ⟨ret_bool he.out.symm, HB.out⟩
  have hI : ¬ (g.atoms.length : Int) > 80 := by omega
  by_cases h9 : 200 < g.rules.length
  · have he := Lib.hid (show bigG g = true by unfold bigG; rw [decide_eq_true h9, Bool.or_true]; rfl)
    have hI2 : (g.rules.length : Int) > 200 := by omega
    clear h8 h9
    go_wp2_with fail
    go_ret
    exact ⟨ret_bool he.out.symm, HB.out⟩
  have hI2 : ¬ (g.rules.length : Int) > 200 := by omega
  go_wp2_with fail
  clear d0 d1 lP
  go_loopw [3] (fun i wr => ∃ k : Nat, k ≤ g.atoms.length ∧ i = .int .i64 k ∧ Hid (∀ (i : Nat) (t : List Cell), i < k → g.atoms[i]? = some t → ¬ 200 < t.length) ∧ Hid (Below W.heap.size W wr)) (fun i _ => g.atoms.length - (intOf i).toNat)
  case atStart => exact ⟨0, Nat.zero_le _, rfl, Lib.hid (fun i t h _ => by omega), Lib.hid (Below.refl _ _)⟩
  case round =>
    obtain ⟨k, hk, rfl, hT, hbr⟩ := hrel
    have hzr := hbr.out.size
    have HPr := Lib.hid (rowTo HP.out hbr.out)
    have hbw := Lib.hid (below_step hbr.out HB.out)
    have d0 := HPr.out.cell (j := 0) (by simp)
    have lP := HPr.out.lt
    simp only [List.getElem_cons_zero] at d0
    by_cases hlt : k < g.atoms.length
    · obtain ⟨_, _, ee, -, -, -, -, x5⟩ := (HA.out.at hbw.out)
      simp only [Value.slice.injEq, true_and] at ee
      obtain ⟨rfl, rfl⟩ := ee
      obtain ⟨b, off, p1, n1, rfl, -, hb, hc, -⟩ := x5.seq hlt
      have hyes := Lib.hid (fun h => bigG_t (g := g) hlt h)
      have hno := Lib.hid (fun (h : ¬ 200 < g.atoms[k].length) => show ∀ (i : Nat) (t : List Cell), i < k + 1 → g.atoms[i]? = some t → ¬ 200 < t.length from fun i t hi ht => by
        by_cases e : i = k
        · subst e; rw [List.getElem?_eq_getElem hlt] at ht; exact Option.some.inj ht ▸ h
        · exact hT.out i t (by omega) ht)
      obtain ⟨m, hm⟩ : ∃ m, m = g.atoms[k].length := ⟨_, rfl⟩
      rw [← hm] at hc hyes hno
      have hkl : (k : Int) < (g.atoms.length : Int) := by omega
      have hk0 : (0 : Int) ≤ (k : Int) := by omega
      clear x5 hm
      by_cases h2 : 200 < m
      · have he := Lib.hid (hyes.out h2)
        have h2I : (m : Int) > 200 := by omega
        clear hyes hno h2
        go_wp2_with fail
        go_ret
        exact ⟨ret_bool he.out.symm, hbw.out⟩
      · have hn2 := Lib.hid (hno.out h2)
        have h2I : ¬ (m : Int) > 200 := by omega
        clear hyes hno h2
        go_wp2_with fail
        go_roundw
        case rel => exact ⟨k + 1, hlt, by go_num, hn2, Lib.hid (below_step Seq.way hbr.out)⟩
        case measure => simp [intOf]; omega
    · obtain rfl : k = g.atoms.length := by omega
      have hkl : ¬ (g.atoms.length : Int) < (g.atoms.length : Int) := by omega
      have hTa := Lib.hid (show ∀ (i : Nat) (t : List Cell), g.atoms[i]? = some t → ¬ 200 < t.length from fun i t ht => hT.out i t (List.getElem?_eq_some_iff.1 ht).1 ht)
      go_wp2_with fail
      clear d0 lP
      go_loopw [4] (fun i wz => ∃ k : Nat, k ≤ g.rules.length ∧ i = .int .i64 k ∧ Hid (∀ (i : Nat) (r : Rule), i < k → g.rules[i]? = some r → bigR r = false) ∧ Hid (Below W.heap.size W wz)) (fun i _ => g.rules.length - (intOf i).toNat)
      case atStart => exact ⟨0, Nat.zero_le _, rfl, Lib.hid (fun i t h _ => by omega), hbr⟩
      case round =>
        clear hkl
        obtain ⟨wx, rfl⟩ : ∃ wx, wx = wr := ⟨_, rfl⟩
        obtain ⟨k, hk, rfl, hT2, hbz⟩ := hrel
        have hzz := hbz.out.size
        have HPz := Lib.hid (rowTo HP.out hbz.out)
        have hbwz := Lib.hid (below_step hbz.out HB.out)
        have d1 := HPz.out.cell (j := 1) (by simp)
        have lP := HPz.out.lt
        simp only [List.getElem_cons_zero, List.getElem_cons_succ] at d1
        by_cases hlt : k < g.rules.length
        · obtain ⟨_, _, ee, -, -, -, -, x5⟩ := (HRl.out.at hbwz.out)
          simp only [Value.slice.injEq, true_and] at ee
          obtain ⟨rfl, rfl⟩ := ee
          obtain ⟨b, off, pa, pc, na, nc, rfl, -, hb, -, c1, c2, -⟩ := x5.rule hlt
          have hyes := Lib.hid (fun h => bigG_r (g := g) hlt h)
          have hno := Lib.hid (fun (h : bigR g.rules[k] = false) => show ∀ (i : Nat) (r : Rule), i < k + 1 → g.rules[i]? = some r → bigR r = false from fun i t hi ht => by
            by_cases e : i = k
            · subst e; rw [List.getElem?_eq_getElem hlt] at ht; exact Option.some.inj ht ▸ h
            · exact hT2.out i t (by omega) ht)
          have hbd := Lib.hid (show bigR g.rules[k] = (decide (80 < g.rules[k].pos.length) || decide (80 < g.rules[k].neg.length)) from rfl)
          obtain ⟨r, hr⟩ : ∃ r, r = g.rules[k] := ⟨_, rfl⟩
          rw [← hr] at c1 c2 hyes hno hbd
          have hkl : (k : Int) < (g.rules.length : Int) := by omega
          have hk0 : (0 : Int) ≤ (k : Int) := by omega
          clear x5 hr
          by_cases h1 : 80 < r.pos.length
          · have he := Lib.hid (hyes.out (by rw [hbd.out, decide_eq_true h1]; rfl))
            have h1I : (r.pos.length : Int) > 80 := by omega
            clear hyes hno h1
            go_wp2_with fail
            go_ret
            exact ⟨ret_bool he.out.symm, hbwz.out⟩
          have h1I : ¬ (r.pos.length : Int) > 80 := by omega
          by_cases h2 : 80 < r.neg.length
          · have he := Lib.hid (hyes.out (by rw [hbd.out, decide_eq_true h2, Bool.or_true]))
            have h2I : (r.neg.length : Int) > 80 := by omega
            clear hyes hno h1 h2
            go_wp2_with fail
            go_ret
            exact ⟨ret_bool he.out.symm, hbwz.out⟩
          · have hn2 := Lib.hid (hno.out (by rw [hbd.out, decide_eq_false h1, decide_eq_false h2]; rfl))
            have h2I : ¬ (r.neg.length : Int) > 80 := by omega
            clear hyes hno h1 h2
            go_wp2_with fail
            go_roundw
            case rel => exact ⟨k + 1, hlt, by go_num, hn2, Lib.hid (below_step Seq.way hbz.out)⟩
            case measure => simp [intOf]; omega
        · obtain rfl : k = g.rules.length := by omega
          have hkl : ¬ (g.rules.length : Int) < (g.rules.length : Int) := by omega
          have he := Lib.hid (bigG_no (g := g) (by omega) (by omega) hTa.out fun i r hr => hT2.out i r (List.getElem?_eq_some_iff.1 hr).1 hr)
          go_wp2_with fail
          go_ret
          exact ⟨ret_bool he.out.symm, hbwz.out⟩
end Go.Proofs.YtaedgpcmkagpeaaGreat
