/-
  R23: Dirty, Comp, other, anew, Again, Same.
  R23: other, anew, Again, Same.
-/
import Derived.Test.YtbcambjonjhopaaDpH
import Derived.Test.YtbcambjonjhopaaAppG
namespace Go.Proofs.Ytbcambjonjhopaa
section
open Go Go.RowKit

theorem ResV.mk {S : Nat → Prop} {w : World} {ta ia la : Option Addr} {tc il ic lc : Nat} {r : Res} (h1 : Seq tabE S w (.slice ta r.tabs.length tc) r.tabs) (h2 : Seq edgE S w (.slice la r.lks.length lc) r.lks) :
    ResV S w (.agg #[.slice ta r.tabs.length tc, .slice ia il ic, .slice la r.lks.length lc]) r := ⟨ta, tc, ia, il, ic, la, lc, rfl, h1, h2⟩
/-- The bounds of what is asked. -/
structure ResOK (r : Res) : Prop where
  tl : r.tabs.length ≤ 1000
  ll : r.lks.length ≤ 1000
  cl : ∀ t ∈ r.tabs, t.call.length ≤ 1000
  rg : RngR r
theorem reaL_len (r : Res) (i : Nat) : (natsZ (reaL r i)).length ≤ r.tabs.length := by
  rw [natsZ_len]
  have := List.length_filter_le (reB (edgL r) r.tabs.length i) (List.range r.tabs.length)
  rw [List.length_range] at this; exact this
theorem cmpoL_len (r : Res) (i : Nat) : (natsZ (cmpoL r i)).length ≤ r.tabs.length := by
  rw [natsZ_len]
  have := List.length_filter_le (fun j => reB (edgL r) r.tabs.length i j && reB (edgL r) r.tabs.length j i) (List.range r.tabs.length)
  rw [List.length_range] at this; exact this
theorem touchL_len (r : Res) (c : List (List Cell)) : (natsZ (touchL r c)).length ≤ r.tabs.length := fltN_len _ _


/-- Of a row those of which something is so. -/
theorem cmpo_flt (r : Res) (n : Nat) : natsZ (cmpoL r n) = fltL (fun x : Int => decide ((n : Int) ∈ natsZ (reaL r x.toNat))) (natsZ (reaL r n)) := by
  unfold cmpoL reaL
  rw [← compL_reach]
  unfold fltL natsZ
  rw [List.filter_map]
  congr 1
  apply List.filter_congr
  intro j _
  simp only [Function.comp, Int.toNat_natCast]
  have := natsZ_mem (l := reachL (edgL r) r.tabs.length j) (n := n)
  rw [mem_reachL] at this
  unfold natsZ at this
  rw [Bool.eq_iff_iff, decide_eq_true_eq]
  exact this.symm
theorem reaL_at {r : Res} {n : Nat} {x : Int} (h : x ∈ natsZ (reaL r n)) : ∃ j : Nat, x = (j : Int) ∧ j < r.tabs.length := by
  unfold natsZ at h
  obtain ⟨j, hj, rfl⟩ := List.mem_map.1 h
  exact ⟨j, rfl, List.mem_range.1 (List.mem_filter.1 hj).1⟩


end
section
open Go Go.RowKit

/-- Has a table other answers, or is it not there? -/
def otherB (t : Tab) : List Tab → Bool
  | [] => true
  | x :: s => if x.call = t.call then !decide (x.ans = t.ans) else otherB t s
theorem otherB_hit {t : Tab} {s : List Tab} {k : Nat} (hk : k < s.length) (hno : ∀ j (hj : j < s.length), j < k → s[j].call ≠ t.call) (h : s[k].call = t.call) : otherB t s = !decide (s[k].ans = t.ans) := by
  induction s generalizing k with
  | nil => simp at hk
  | cons x s ih =>
    cases k with
    | zero => simp only [List.getElem_cons_zero] at h ⊢; unfold otherB; rw [if_pos h]
    | succ k =>
      have h0 : x.call ≠ t.call := by have := hno 0 (by simp) (by omega); simpa using this
      simp only [List.getElem_cons_succ] at h ⊢
      unfold otherB
      rw [if_neg h0]
      exact ih (by simpa using hk) (fun j hj hjk => by have := hno (j + 1) (by simpa using hj) (by omega); simpa using this) h
theorem otherB_miss {t : Tab} {s : List Tab} (hno : ∀ j (hj : j < s.length), s[j].call ≠ t.call) : otherB t s = true := by
  induction s with
  | nil => rfl
  | cons x s ih =>
    have h0 : x.call ≠ t.call := by have := hno 0 (by simp); simpa using this
    unfold otherB
    rw [if_neg h0]
    exact ih fun j hj => by have := hno (j + 1) (by simpa using hj); simpa using this


theorem InT_ret {S : Nat → Prop} {w : World} {v : Value} {l : List Int} {n : Int} (hl : Seq intE S w v l) :
    Calls Try.prog 8 #[v, .int .i64 n] w (RetV (.bool (decide (n ∈ l))) w) := (InT_spec hl).mono fun _ _ ⟨h1, h2⟩ => ⟨h1, h2 ▸ Below.refl _ _⟩
def otherAt (r now : Res) (n : Int) : Bool := match r.tabs[n.toNat]? with
  | none => false
  | some t => otherB t now.tabs
theorem otherAt_at {r now : Res} {n : Nat} (h : n < r.tabs.length) : otherAt r now (n : Int) = otherB r.tabs[n] now.tabs := by
  unfold otherAt; rw [Int.toNat_natCast, List.getElem?_eq_getElem h]
def lnkAnew (r now : Res) (c : List Int) (e : Int × Int) : Bool := decide (e.1 ∈ c) && !decide (e.2 ∈ c) && otherAt r now e.2
/-- Must a component be evaluated anew? -/
def anewB (r now : Res) (t c : List Int) : Bool := meetB c t || r.lks.any (lnkAnew r now c)
theorem anewB_1 {r now : Res} {t c : List Int} (h : meetB c t = true) : anewB r now t c = true := by unfold anewB; rw [h]; rfl
theorem anewB_2 {r now : Res} {t c : List Int} {k : Nat} (hk : k < r.lks.length) (h : lnkAnew r now c r.lks[k] = true) : anewB r now t c = true := by
  unfold anewB; rw [List.any_eq_true.2 ⟨_, List.getElem_mem hk, h⟩, Bool.or_true]
theorem anewB_3 {r now : Res} {t c : List Int} (h0 : meetB c t = false) (h : ∀ j (hj : j < r.lks.length), lnkAnew r now c r.lks[j] = false) : anewB r now t c = false := by
  unfold anewB; rw [h0, Bool.false_or, List.any_eq_false]
  intro x hx
  obtain ⟨j, hj, rfl⟩ := List.mem_iff_getElem.1 hx
  rw [h j hj]; simp


def agnB (r now : Res) (c : List (List Cell)) (i : Nat) : Bool := anewB r now (natsZ (touchL r c)) (natsZ (cmpoL r i))
/-- The tables that must be evaluated anew. -/
def againL (r now : Res) (c : List (List Cell)) : List Nat := fltN (agnB r now c) r.tabs.length


set_option maxHeartbeats 1600000 in
set_option maxRecDepth 100000 in
theorem SameR23_spec {S T : Nat → Prop} {w : World} {v u : Value} {a b : List (List Int)} (ha : Seq (seqE intE) S w v a) (hb : Seq (seqE intE) T w u b) :
    Calls Try.prog 15 #[v, u] w (QuietV (.bool (decide (a = b))) w) := by
  have HA := Lib.hid ha
  have HB := Lib.hid hb
  have hal : a.length ≤ 140737488355328 := by obtain ⟨_, _, _, _, _, h, _⟩ := ha; exact h
  obtain ⟨aa, ac, rfl⟩ := ha.shape
  obtain ⟨ba, bc, rfl⟩ := hb.shape
  clear ha hb
  go_enter Try.func15, Try.ntmps15
  by_cases hl : a.length = b.length
  · have hl' : ((a.length : Int) != (b.length : Int)) = false := by simp [hl]
    have Hl := Lib.hid hl
    clear hl
    go_wp2_with fail
    go_loopw [5] (fun i wr => ∃ k : Nat, k ≤ a.length ∧ i = .int .i64 k ∧ Hid (∀ j, j < k → a[j]? = b[j]?) ∧ Drew w wr) (fun i _ => a.length - (intOf i).toNat)
    case atStart => exact ⟨0, Nat.zero_le _, rfl, Lib.hid (by simp), Drew.refl _⟩
    case round =>
      obtain ⟨k, hk, rfl, hno, hdr⟩ := hrel
      have hbr := hdr.belowS
      by_cases hka : k < a.length
      · have hkb : k < b.length := by rw [← Hl.out]; exact hka
        obtain ⟨_, _, ee, -, -, -, -, x5⟩ := HA.out.at hbr
        simp only [Value.slice.injEq, true_and] at ee
        obtain ⟨rfl, rfl⟩ := ee
        obtain ⟨_, _, ee, -, -, -, -, y5⟩ := HB.out.at hbr
        simp only [Value.slice.injEq, true_and] at ee
        obtain ⟨rfl, rfl⟩ := ee
        obtain ⟨b1, o1, p1, n1, rfl, -, l1, c0, hX⟩ := x5.seq hka
        obtain ⟨b2, o2, p2, n2, rfl, -, l2, d0, hY⟩ := y5.seq hkb
        have hx := Lib.hid (show a[k] = b[k] → ∀ j, j < k + 1 → a[j]? = b[j]? from fun h j hj => by
          by_cases e : j = k
          · subst e; rw [List.getElem?_eq_getElem hka, List.getElem?_eq_getElem hkb, h]
          · exact hno.out j (by omega))
        have hn := Lib.hid (show a[k] ≠ b[k] → decide (a = b) = false from fun h => decide_eq_false fun e => by subst e; exact h rfl)
        have HX := Lib.hid hX
        have HY := Lib.hid hY
        obtain ⟨x, hxe⟩ : ∃ x, x = a[k] := ⟨_, rfl⟩
        obtain ⟨y, hye⟩ : ∃ y, y = b[k] := ⟨_, rfl⟩
        rw [← hxe] at c0 hx hn HX
        rw [← hye] at d0 hx hn HY
        clear hxe hye hX hY x5 y5
        have hkl : (k : Int) < (a.length : Int) := by omega
        have hkm : (k : Int) < (b.length : Int) := by omega
        have hk0 : (0 : Int) ≤ (k : Int) := by omega
        have hd := Lib.hid hdr
        clear hdr
        go_upto_region 6 with fail
        go_still_tail 8, (by kernel_rfl)
        go_wp2_with fail
        refine (IntsR14_spec (HX.out.at Seq.way) (HY.out.at Seq.way)).mono ?_
        rintro e w1 ⟨rfl, hq⟩
        have hq' := Lib.hid (show Drew w w1 from hd.out.trans (Drew.trans (by repeat (first | exact Drew.refl _ | exact Drew.of _ _ | refine Drew.drewN ?_ _)) hq))
        clear hq
        by_cases he : x = y
        · have hx' := Lib.hid (hx.out he)
          rw [decide_eq_true he]
          clear hx hn he
          go_wp2_with fail
          go_roundw
          case rel => exact ⟨k + 1, hka, by go_num, hx', hq'.out⟩
          case measure => simp [intOf]; omega
        · have hn' := Lib.hid (hn.out he)
          rw [decide_eq_false he]
          clear hx hn he
          go_wp2_with fail
          go_ret
          exact ⟨ret_bool hn'.out.symm, hq'.out⟩
      · have he := Lib.hid (show decide (a = b) = true from decide_eq_true (List.ext_getElem? fun j => by
          by_cases hj : j < a.length
          · exact hno.out j (by omega)
          · rw [List.getElem?_eq_none (by omega), List.getElem?_eq_none (by have := Hl.out; omega)]))
        have hkn : ¬ (k : Int) < (a.length : Int) := by omega
        clear hno hka
        go_wp2_with fail
        go_ret
        exact ⟨ret_bool he.out.symm, hdr⟩
  · have hd := Lib.hid (show decide (a = b) = false from decide_eq_false fun h => hl (by rw [h]))
    have hl' : ((a.length : Int) != (b.length : Int)) = true := by simp; omega
    clear hl
    go_wp2_with fail
    go_ret
    exact ⟨ret_bool hd.out.symm, Drew.refl _⟩
end
end Go.Proofs.Ytbcambjonjhopaa
