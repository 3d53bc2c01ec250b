/-
  unify: where a subterm ends (the program's end over classes; the document's End); a match, as a plain tale.
-/
import Derived.Test.YtbcambjonjhopaaMtC
import Derived.Test.YtbcambjonjhopaaTmR
namespace Go.Proofs.Ytbcambjonjhopaa
open Go Go.RowKit

/-! ### The tale of a match -/
/-- The cells of the first term. -/
def subN (t : List Cell) : Nat := (endC 1 t).getD 0
def matchL : List Cell → List Cell → List Bnd → Option (List Bnd)
  | [], _, s => some s
  | _ :: _, [], _ => none
  | c :: p, d :: t, s =>
    if c.kind ≠ 1 then (if c = d then matchL p t s else none)
    else match bindS s c.n with
      | some y => if y = (d :: t).take (subN (d :: t)) then matchL p ((d :: t).drop (subN (d :: t))) s else none
      | none => matchL p ((d :: t).drop (subN (d :: t))) (s ++ [⟨c.n, (d :: t).take (subN (d :: t))⟩])
def matchB (p t : List Cell) : Bool := (matchL p t []).isSome

/-- What is left of a term: some whole terms. -/
def Whole (t : List Cell) : Prop := t.length ≤ 200 ∧ ∃ m, endC m t = some t.length
theorem RightT.whole {t : List Cell} (h : RightT t) : Whole t := ⟨h.1, 1, h.2⟩
theorem Whole.sub {t : List Cell} (h : Whole t) (hn : t ≠ []) : endC 1 t = some (subN t) ∧ 1 ≤ subN t ∧ subN t ≤ t.length ∧ RightT (t.take (subN t)) ∧ Whole (t.drop (subN t)) := by
  obtain ⟨h1, m, h2⟩ := h
  cases m with
  | zero => rw [endC_zero] at h2; simp at h2; exact absurd h2.symm (by simpa using hn)
  | succ m =>
    rw [show m + 1 = 1 + m by omega, endC_add] at h2
    cases h3 : endC 1 t with
    | none => rw [h3] at h2; simp at h2
    | some k =>
      have hs : subN t = k := by unfold subN; rw [h3]; rfl
      rw [h3] at h2
      simp only [Option.bind_some, Option.map_eq_some_iff] at h2
      obtain ⟨j, h4, h5⟩ := h2
      have hk := endC_le h3
      refine ⟨by rw [hs], by omega, by omega, ?_, ?_⟩
      · rw [hs]
        refine ⟨by rw [List.length_take]; omega, ?_⟩
        have := endC_append h3 []
        rw [List.append_nil] at this
        rw [this, List.length_take, Nat.min_eq_left hk.1]
      · rw [hs]
        exact ⟨by rw [List.length_drop]; omega, m, by rw [h4, List.length_drop]; congr 1; omega⟩
theorem Whole.tail {c : Cell} {t : List Cell} (h : Whole (c :: t)) : Whole t ∧ cellOK c = true := by
  obtain ⟨h1, m, h2⟩ := h
  cases m with
  | zero => rw [endC_zero] at h2; simp at h2
  | succ m =>
    rw [endC_succ] at h2
    split at h2
    · rename_i hc
      obtain ⟨j, h3, h4⟩ := Option.map_eq_some_iff.1 h2
      simp only [List.length_cons] at h4 h1
      exact ⟨⟨by omega, _, by rw [h3]; congr 1; omega⟩, hc⟩
    · cases h2
theorem matchL_fun {c d : Cell} {p t : List Cell} {s : List Bnd} (h : c.kind ≠ 1) : matchL (c :: p) (d :: t) s = if c = d then matchL p t s else none := by
  rw [matchL, if_pos h]
theorem matchL_old {c d : Cell} {p t y : List Cell} {s : List Bnd} (h : c.kind = 1) (hb : bindS s c.n = some y) :
    matchL (c :: p) (d :: t) s = if y = (d :: t).take (subN (d :: t)) then matchL p ((d :: t).drop (subN (d :: t))) s else none := by
  rw [matchL, if_neg (by omega), hb]
theorem matchL_new {c d : Cell} {p t : List Cell} {s : List Bnd} (h : c.kind = 1) (hb : bindS s c.n = none) :
    matchL (c :: p) (d :: t) s = matchL p ((d :: t).drop (subN (d :: t))) (s ++ [⟨c.n, (d :: t).take (subN (d :: t))⟩]) := by
  rw [matchL, if_neg (by omega), hb]

/-! ### The places -/
theorem endC_stepZ {t : List Cell} {k o E : Nat} (hk : k < t.length) (ho : 1 ≤ o) (h : (endC o (t.drop k)).map (k + ·) = some E) :
    cellOK t[k] = true ∧ (endC (o - 1 + arity t[k]) (t.drop (k + 1))).map (k + 1 + ·) = some E := by
  rw [endC_step hk ho] at h
  split at h
  · rename_i hc; exact ⟨hc, h⟩
  · cases h
theorem endC_lt {t : List Cell} {k o E : Nat} (ho : 1 ≤ o) (h : (endC o (t.drop k)).map (k + ·) = some E) : k < t.length := by
  rcases Nat.lt_or_ge k t.length with h1 | h1
  · exact h1
  · rw [List.drop_eq_nil_of_le h1] at h
    obtain ⟨o', rfl⟩ : ∃ o', o = o' + 1 := ⟨o - 1, by omega⟩
    simp [endC] at h

set_option maxHeartbeats 1600000 in
set_option maxRecDepth 100000 in
theorem endK_spec {S : Nat → Prop} {w : World} {v x1 x2 x3 : Value} {t : List Cell} {cb at_ E : Nat} (hr : Row 67 w cb [v, x1, x2, x3]) (ht : Seq cellE S w v t) (hat : at_ ≤ t.length) (hlen : t.length ≤ 1000000) (hE : endO t at_ = some E) :
    Calls Try.prog 34 #[.pointer (some ⟨cb, 0, none⟩), .int .i64 at_] w (QuietV (.int .i64 E) w) := by
  obtain ⟨ao, cap, rfl, h1, h2, h3, h4, h5⟩ := ht
  have q0 := hr.cell (j := 0) (by simp)
  simp only [List.getElem_cons_zero] at q0
  have HE := Lib.hid hE
  clear hr hE
  go_enter Try.func34, Try.ntmps34
  go_wp2_with fail
  go_loopw [1, 5] (fun i o wr => ∃ k n : Nat, k ≤ t.length ∧ i = .int .i64 k ∧ o = .int .i64 n ∧ n ≤ 1 + 6 * k ∧ Hid ((endC n (t.drop k)).map (k + ·) = some E) ∧ Drew w wr) (fun i _ _ => t.length + 1 - (intOf i).toNat)
  case atStart => exact ⟨at_, 1, hat, rfl, rfl, by omega, Lib.hid HE.out, Drew.refl _⟩
  case round =>
    obtain ⟨k, n, hk, rfl, rfl, hn2, hinv, hd⟩ := hrel
    have hbr := hd.below w.heap.size
    have c9 := (hbr.cell (p := ⟨cb, 0, none⟩) (by
      rcases Nat.lt_or_ge cb w.heap.size with h | h
      · exact h
      · exfalso; simp only [World.cell?, Array.getElem?_eq_none h] at q0; cases q0)).trans q0
    by_cases hn0 : n = 0
    · subst hn0
      have he : E = k := by
        have := hinv.out
        rw [endC_zero] at this
        simpa using this.symm
      subst he
      go_wp2_with fail
      go_ret
      exact ⟨rfl, hd⟩
    · have hlt := endC_lt (by omega) hinv.out
      obtain ⟨hok, hst⟩ := endC_stepZ hlt (by omega) hinv.out
      have Hst := Lib.hid hst
      have hna := arity_le hok
      have hfn := Lib.hid (fun h => cellOK_fun hok h)
      have hard := Lib.hid (show arity t[k] = if t[k].kind = 3 then t[k].n.toNat else 0 from rfl)
      clear hst hok hinv
      obtain ⟨b, off, rfl, -, hb, c0, c1, c2, ok0, ok1, ok2⟩ := (h5.below hbr fun _ _ h => h).cell hlt
      obtain ⟨c, hc⟩ : ∃ c, c = t[k] := ⟨_, rfl⟩
      rw [← hc] at c0 c1 c2 ok0 ok1 ok2 Hst hna hfn hard
      clear hc c1
      have hkl : (k : Int) < (t.length : Int) := by omega
      have hk0 : (0 : Int) ≤ (k : Int) := by omega
      have hnp : (0 : Int) < (n : Int) := by omega
      obtain ⟨m, rfl⟩ : ∃ m, n = m + 1 := ⟨n - 1, by omega⟩
      rw [Nat.add_sub_cancel] at Hst
      by_cases h3 : c.kind = 3
      · have hcn := hfn.out h3
        obtain ⟨a, ha⟩ : ∃ a : Nat, c.n = (a : Int) := ⟨c.n.toNat, by omega⟩
        have har : arity c = a := by rw [hard.out, if_pos h3]; omega
        rw [har] at Hst hna
        rw [ha] at c2
        rw [h3] at c0
        clear h3 hcn har ha hard hfn
        have hov : (m : Int) + (a : Int) ≤ 9000000000000000000 := by omega
        go_wp2_with fail
        go_roundw
        case rel => exact ⟨k + 1, m + a, hlt, by go_num, by go_num, by omega, Hst, hd⟩
        case measure => simp [intOf]; omega
      · have har : arity c = 0 := by rw [hard.out, if_neg h3]
        rw [har, Nat.add_zero] at Hst
        have h3' : (c.kind == 3) = false := by simpa using h3
        clear hard hfn
        go_wp2_with fail
        go_roundw
        case rel => exact ⟨k + 1, m, hlt, by go_num, by go_num, by omega, Hst, hd⟩
        case measure => simp [intOf]; omega
end Go.Proofs.Ytbcambjonjhopaa
