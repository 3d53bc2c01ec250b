/-
  Plain: right terms, right bindings, what is put in (as in layer 2).
  unify: where a subterm ends (the program's end over classes; the document's End); a match, as a plain tale.
-/
import Derived.Test.YtckkjjiaecnciaaGreatMtB
import Derived.Test.YtckkjjiaecnciaaGreatTmT
namespace Go.Proofs.YtckkjjiaecnciaaGreat
section
open Go Go.RowKit

def ownB (b : Bnd) : Bool := isV b.var b.t

theorem bindS_of_mem {a : List Bnd} (hne : VarsNe a) {x : Bnd} (hx : x ∈ a) : bindS a x.var = some x.t := by
  obtain ⟨k, hk, rfl⟩ := List.mem_iff_getElem.1 hx
  refine (placeS_at hk rfl fun i hi hlt e => ?_).2
  exact List.pairwise_iff_getElem.1 hne i k hi hk hlt e

theorem lookS_bound {s : List Bnd} {c : Cell} {t : List Cell} (h1 : c.kind = 1) (h2 : bindS s c.n = some t) : lookS s c = t := by
  unfold lookS; rw [if_pos h1, h2]; rfl

theorem lookS_free {s : List Bnd} {c : Cell} (h : c.kind ≠ 1 ∨ bindS s c.n = none) : lookS s c = [c] := by
  unfold lookS
  split
  · rcases h with h | h
    · contradiction
    · rw [h]; rfl
  · rfl

def vT (n : Int) : Cell := ⟨1, ⟨#[]⟩, n⟩

theorem endC_cells : ∀ {l : List Cell} {k m : Nat}, endC k l = some m → ∀ c ∈ l.take m, cellOK c = true
  | l, 0, m, h => by rw [endC_zero] at h; simp at h; subst h; simp
  | [], k + 1, m, h => by simp [endC] at h
  | c :: l, k + 1, m, h => by
    rw [endC_succ] at h
    split at h
    · rename_i hc
      obtain ⟨m', h1, rfl⟩ := Option.map_eq_some_iff.1 h
      intro x hx
      rw [List.take_succ_cons, List.mem_cons] at hx
      rcases hx with rfl | hx
      · exact hc
      · exact endC_cells h1 x hx
    · cases h

theorem RightT.cells {t : List Cell} (h : RightT t) : ∀ c ∈ t, cellOK c = true := fun c hc => endC_cells h.2 c (by rw [List.take_length]; exact hc)

theorem cell_var {c : Cell} (h : cellOK c = true) (hk : c.kind = 1) : c = vT c.n := by
  unfold cellOK at h
  rw [if_pos hk] at h
  simp only [Bool.and_eq_true, decide_eq_true_eq] at h
  obtain ⟨k, nm, n⟩ := c
  have hn : nm = ⟨#[]⟩ := by
    obtain ⟨d⟩ := nm
    have : d.size = 0 := h.1.1
    rw [Array.eq_empty_of_size_eq_zero this]
  subst hn
  have hk' : k = 1 := hk
  subst hk'
  rfl

theorem vT_ok {n : Int} (h : 0 ≤ n ∧ n ≤ 999) : cellOK (vT n) = true := by
  unfold cellOK vT
  rw [if_pos rfl, decide_eq_true h.1, decide_eq_true h.2]; rfl

theorem vT_right {n : Int} (h : 0 ≤ n ∧ n ≤ 999) : RightT [vT n] := by
  refine ⟨by simp, ?_⟩
  rw [endC_one, if_pos (vT_ok h)]
  rfl

theorem cell_n {c : Cell} (h : cellOK c = true) (hk : c.kind = 1) : 0 ≤ c.n ∧ c.n ≤ 999 := by
  unfold cellOK at h
  rw [if_pos hk] at h
  simp only [Bool.and_eq_true, decide_eq_true_eq] at h
  exact ⟨h.1.2, h.2⟩

/-- Right bindings. -/
structure RightS (s : List Bnd) : Prop where
  inc : s.Pairwise fun a b => a.var < b.var
  var : ∀ x ∈ s, 0 ≤ x.var ∧ x.var ≤ 999
  term : ∀ x ∈ s, RightT x.t
  own : ∀ x ∈ s, ownB x = false

theorem rightAt_iff : ∀ {s : List Bnd} {last : Int}, -1 ≤ last → (rightAt last s = true ↔ RightS s ∧ ∀ x ∈ s, last < x.var)
  | [], last, _ => ⟨fun _ => ⟨⟨List.Pairwise.nil, by simp, by simp, by simp⟩, by simp⟩, fun _ => rfl⟩
  | b :: s, last, hl => by
    have hc : rightAt last (b :: s) = (okS last b && rightAt b.var s) := rfl
    have ho : okS last b = true ↔ last < b.var ∧ b.var ≤ 999 ∧ RightT b.t ∧ ownB b = false := by
      unfold okS ownB rightT
      simp only [Bool.and_eq_true, decide_eq_true_eq, Bool.not_eq_true']
      constructor
      · rintro ⟨⟨⟨h1, h2⟩, h3⟩, h4⟩; exact ⟨h1, h2, h3, h4⟩
      · rintro ⟨h1, h2, h3, h4⟩; exact ⟨⟨⟨h1, h2⟩, h3⟩, h4⟩
    rw [hc, Bool.and_eq_true, ho]
    constructor
    · rintro ⟨⟨h1, h2, h3, h4⟩, h5⟩
      obtain ⟨r, hr⟩ := (rightAt_iff (by omega)).1 h5
      refine ⟨⟨List.pairwise_cons.2 ⟨hr, r.inc⟩, ?_, ?_, ?_⟩, ?_⟩ <;> intro x hx <;> rcases List.mem_cons.1 hx with rfl | hx
      · exact ⟨by omega, h2⟩
      · exact r.var x hx
      · exact h3
      · exact r.term x hx
      · exact h4
      · exact r.own x hx
      · exact h1
      · have := hr x hx; omega
    · rintro ⟨r, hr⟩
      have hv := r.var b (by simp)
      have hi := List.pairwise_cons.1 r.inc
      refine ⟨⟨hr b (by simp), hv.2, r.term b (by simp), r.own b (by simp)⟩, (rightAt_iff (by omega)).2 ⟨⟨hi.2, fun x hx => r.var x (by simp [hx]), fun x hx => r.term x (by simp [hx]), fun x hx => r.own x (by simp [hx])⟩, hi.1⟩⟩

theorem rightS_iff {s : List Bnd} : rightS s = true ↔ RightS s := by
  unfold rightS
  rw [rightAt_iff (Int.le_refl _)]
  exact ⟨fun h => h.1, fun h => ⟨h, fun x hx => by have := h.var x hx; omega⟩⟩

theorem RightS.ne {s : List Bnd} (h : RightS s) : VarsNe s := h.inc.imp fun h => by omega

theorem RightS.bind {s : List Bnd} (h : RightS s) {n : Int} {t : List Cell} (hb : bindS s n = some t) : RightT t ∧ isV n t = false ∧ 0 ≤ n ∧ n ≤ 999 := by
  obtain ⟨b, hb1, rfl, rfl⟩ := bindS_mem hb
  exact ⟨h.term b hb1, h.own b hb1, h.var b hb1⟩

theorem bindS_in {s : List Bnd} (h : RightS s) {x : Bnd} (hx : x ∈ s) : bindS s x.var = some x.t := bindS_of_mem h.ne hx

theorem putT_cons (s : List Bnd) (c : Cell) (t : List Cell) : putT s (c :: t) = lookS s c ++ putT s t := rfl

theorem putT_app (s : List Bnd) (t u : List Cell) : putT s (t ++ u) = putT s t ++ putT s u := by unfold putT; rw [List.flatMap_append]

theorem putT_nil (t : List Cell) : putT [] t = t := by
  induction t with
  | nil => rfl
  | cons c t ih =>
    rw [putT_cons, ih]
    have : lookS [] c = [c] := lookS_free (.inr (by simp [bindS]))
    rw [this]; rfl

theorem lookS_pos {s : List Bnd} (hs : RightS s) (c : Cell) : 1 ≤ (lookS s c).length := by
  by_cases hk : c.kind = 1
  · cases hb : bindS s c.n with
    | some t => rw [lookS_bound hk hb]; exact (hs.bind hb).1.pos
    | none => rw [lookS_free (.inr hb)]; simp
  · rw [lookS_free (.inl hk)]; simp

theorem putT_ge {s : List Bnd} (hs : RightS s) (t : List Cell) : t.length ≤ (putT s t).length := by
  induction t with
  | nil => simp
  | cons c t ih =>
    have := lookS_pos hs c
    rw [putT_cons, List.length_append, List.length_cons]; omega

theorem putT_fix {s : List Bnd} (hs : RightS s) : ∀ {t : List Cell}, putT s t = t → ∀ c ∈ t, lookS s c = [c]
  | [], _ => by simp
  | c :: t, h => by
    rw [putT_cons] at h
    have h1 := lookS_pos hs c
    have h2 := putT_ge hs t
    have h3 := congrArg List.length h
    rw [List.length_append, List.length_cons] at h3
    have h4 : (lookS s c).length = 1 := by omega
    have h5 : lookS s c = [c] ∧ putT s t = t := by
      obtain ⟨d, hd⟩ := List.length_eq_one_iff.1 h4
      rw [hd] at h ⊢
      simp only [List.cons_append, List.nil_append, List.cons.injEq] at h
      exact ⟨by rw [h.1], h.2⟩
    intro x hx
    rcases List.mem_cons.1 hx with rfl | hx
    · exact h5.1
    · exact putT_fix hs h5.2 x hx

/-- Terms stay terms. -/
theorem endC_put {s : List Bnd} (hs : RightS s) : ∀ {l : List Cell} {k m : Nat}, endC k l = some m → endC k (putT s l) = some (putT s (l.take m)).length
  | l, 0, m, h => by rw [endC_zero] at h ⊢; simp at h; subst h; rfl
  | [], k + 1, m, h => by simp [endC] at h
  | c :: l, k + 1, m, h => by
    rw [endC_succ] at h
    split at h
    · rename_i hc
      obtain ⟨m', h1, rfl⟩ := Option.map_eq_some_iff.1 h
      have ih := endC_put hs h1
      rw [putT_cons, List.take_succ_cons, putT_cons]
      by_cases hk : c.kind = 1
      · have ha : arity c = 0 := by unfold arity; rw [if_neg (by omega)]
        rw [ha, Nat.add_zero] at ih
        cases hb : bindS s c.n with
        | some tb =>
          rw [lookS_bound hk hb]
          have hr := (hs.bind hb).1
          have h2 : endC 1 (tb ++ putT s l) = some tb.length := by
            have := endC_append hr.2 (putT s l)
            rwa [List.take_length] at this
          rw [Nat.add_comm k 1, endC_add, h2, Option.bind_some, List.drop_left' rfl, ih]
          simp
        | none =>
          rw [lookS_free (.inr hb)]
          show endC (k + 1) (c :: putT s l) = _
          rw [endC_succ, if_pos hc, ha, Nat.add_zero, ih]
          simp [Nat.add_comm]
      · rw [lookS_free (.inl hk)]
        show endC (k + 1) (c :: putT s l) = _
        rw [endC_succ, if_pos hc, ih]
        simp [Nat.add_comm]
    · cases h

theorem put_right {s : List Bnd} (hs : RightS s) {t : List Cell} (ht : RightT t) (hl : (putT s t).length ≤ 200) : RightT (putT s t) := by
  refine ⟨hl, ?_⟩
  have := endC_put hs ht.2
  rwa [List.take_length] at this

theorem appO_some {s : List Bnd} {t x : List Cell} (h : appO s t = some x) : x = putT s t ∧ (putT s t).length ≤ 200 := by
  unfold appO at h
  split at h
  · simp only [Option.some.injEq] at h; exact ⟨h.symm, by assumption⟩
  · cases h

theorem appO_none {s : List Bnd} {t : List Cell} : appO s t = none ↔ 200 < (putT s t).length := by
  unfold appO
  split
  · simp; assumption
  · simp; omega

theorem appO_yes {s : List Bnd} {t : List Cell} (h : (putT s t).length ≤ 200) : appO s t = some (putT s t) := if_pos h

theorem isV_var {n : Int} {t : List Cell} (ht : RightT t) (h : isV n t = true) : t = [vT n] := by
  match t, h with
  | [c], h =>
    rw [isV_one] at h
    simp only [Bool.and_eq_true, decide_eq_true_eq] at h
    have := cell_var (ht.cells c (by simp)) h.1
    rw [h.2] at this
    rw [this]
end
section
open Go Go.RowKit

/-! ### The tale of a match -/
/-- The cells of the first term. -/
def subN (t : List Cell) : Nat := (endC 1 t).getD 0
def matchL : List Cell → List Cell → List Bnd → Option (List Bnd)
  | [], _, s => some s
  | _ :: _, [], _ => none
  | c :: p, d :: t, s =>
    if c.kind ≠ 1 then (if c = d then matchL p t s else none)
    else match bindS s c.n with
      | some y => if y = (d :: t).take (subN (d :: t)) then matchL p ((d :: t).drop (subN (d :: t))) s else none
      | none => matchL p ((d :: t).drop (subN (d :: t))) (s ++ [⟨c.n, (d :: t).take (subN (d :: t))⟩])
def matchB (p t : List Cell) : Bool := (matchL p t []).isSome

/-- What is left of a term: some whole terms. -/
def Whole (t : List Cell) : Prop := t.length ≤ 200 ∧ ∃ m, endC m t = some t.length
theorem RightT.whole {t : List Cell} (h : RightT t) : Whole t := ⟨h.1, 1, h.2⟩
theorem Whole.sub {t : List Cell} (h : Whole t) (hn : t ≠ []) : endC 1 t = some (subN t) ∧ 1 ≤ subN t ∧ subN t ≤ t.length ∧ RightT (t.take (subN t)) ∧ Whole (t.drop (subN t)) := by
  obtain ⟨h1, m, h2⟩ := h
  cases m with
  | zero => rw [endC_zero] at h2; simp at h2; exact absurd h2.symm (by simpa using hn)
  | succ m =>
    rw [show m + 1 = 1 + m by omega, endC_add] at h2
    cases h3 : endC 1 t with
    | none => rw [h3] at h2; simp at h2
    | some k =>
      have hs : subN t = k := by unfold subN; rw [h3]; rfl
      rw [h3] at h2
      simp only [Option.bind_some, Option.map_eq_some_iff] at h2
      obtain ⟨j, h4, h5⟩ := h2
      have hk := endC_le h3
      refine ⟨by rw [hs], by omega, by omega, ?_, ?_⟩
      · rw [hs]
        refine ⟨by rw [List.length_take]; omega, ?_⟩
        have := endC_append h3 []
        rw [List.append_nil] at this
        rw [this, List.length_take, Nat.min_eq_left hk.1]
      · rw [hs]
        exact ⟨by rw [List.length_drop]; omega, m, by rw [h4, List.length_drop]; congr 1; omega⟩
theorem Whole.tail {c : Cell} {t : List Cell} (h : Whole (c :: t)) : Whole t ∧ cellOK c = true := by
  obtain ⟨h1, m, h2⟩ := h
  cases m with
  | zero => rw [endC_zero] at h2; simp at h2
  | succ m =>
    rw [endC_succ] at h2
    split at h2
    · rename_i hc
      obtain ⟨j, h3, h4⟩ := Option.map_eq_some_iff.1 h2
      simp only [List.length_cons] at h4 h1
      exact ⟨⟨by omega, _, by rw [h3]; congr 1; omega⟩, hc⟩
    · cases h2
theorem matchL_fun {c d : Cell} {p t : List Cell} {s : List Bnd} (h : c.kind ≠ 1) : matchL (c :: p) (d :: t) s = if c = d then matchL p t s else none := by
  rw [matchL, if_pos h]
theorem matchL_old {c d : Cell} {p t y : List Cell} {s : List Bnd} (h : c.kind = 1) (hb : bindS s c.n = some y) :
    matchL (c :: p) (d :: t) s = if y = (d :: t).take (subN (d :: t)) then matchL p ((d :: t).drop (subN (d :: t))) s else none := by
  rw [matchL, if_neg (by omega), hb]
theorem matchL_new {c d : Cell} {p t : List Cell} {s : List Bnd} (h : c.kind = 1) (hb : bindS s c.n = none) :
    matchL (c :: p) (d :: t) s = matchL p ((d :: t).drop (subN (d :: t))) (s ++ [⟨c.n, (d :: t).take (subN (d :: t))⟩]) := by
  rw [matchL, if_neg (by omega), hb]

/-! ### The places -/
theorem endC_stepZ {t : List Cell} {k o E : Nat} (hk : k < t.length) (ho : 1 ≤ o) (h : (endC o (t.drop k)).map (k + ·) = some E) :
    cellOK t[k] = true ∧ (endC (o - 1 + arity t[k]) (t.drop (k + 1))).map (k + 1 + ·) = some E := by
  rw [endC_step hk ho] at h
  split at h
  · rename_i hc; exact ⟨hc, h⟩
  · cases h
theorem endC_lt {t : List Cell} {k o E : Nat} (ho : 1 ≤ o) (h : (endC o (t.drop k)).map (k + ·) = some E) : k < t.length := by
  rcases Nat.lt_or_ge k t.length with h1 | h1
  · exact h1
  · rw [List.drop_eq_nil_of_le h1] at h
    obtain ⟨o', rfl⟩ : ∃ o', o = o' + 1 := ⟨o - 1, by omega⟩
    simp [endC] at h

set_option maxHeartbeats 1600000 in
set_option maxRecDepth 100000 in
theorem endK_spec {S : Nat → Prop} {w : World} {v x1 x2 x3 : Value} {t : List Cell} {cb at_ E : Nat} (hr : Row 93 w cb [v, x1, x2, x3]) (ht : Seq cellE S w v t) (hat : at_ ≤ t.length) (hlen : t.length ≤ 1000000) (hE : endO t at_ = some E) :
    Calls Tryz.prog 83 #[.pointer (some ⟨cb, 0, none⟩), .int .i64 at_] w (QuietV (.int .i64 E) w) := by
  obtain ⟨ao, cap, rfl, h1, h2, h3, h4, h5⟩ := ht
  have q0 := hr.cell (j := 0) (by simp)
  simp only [List.getElem_cons_zero] at q0
  have HE := Lib.hid hE
  clear hr hE
  go_enter Tryz.func83, Tryz.ntmps83
  go_wp2_with fail
  go_loopw [1, 5] (fun i o wr => ∃ k n : Nat, k ≤ t.length ∧ i = .int .i64 k ∧ o = .int .i64 n ∧ n ≤ 1 + 6 * k ∧ Hid ((endC n (t.drop k)).map (k + ·) = some E) ∧ Drew w wr) (fun i _ _ => t.length + 1 - (intOf i).toNat)
  case atStart => exact ⟨at_, 1, hat, rfl, rfl, by omega, Lib.hid HE.out, Drew.refl _⟩
  case round =>
    obtain ⟨k, n, hk, rfl, rfl, hn2, hinv, hd⟩ := hrel
    have hbr := hd.below w.heap.size
    have c9 := (hbr.cell (p := ⟨cb, 0, none⟩) (by
      rcases Nat.lt_or_ge cb w.heap.size with h | h
      · exact h
      · exfalso; simp only [World.cell?, Array.getElem?_eq_none h] at q0; cases q0)).trans q0
    by_cases hn0 : n = 0
    · subst hn0
      have he : E = k := by
        have := hinv.out
        rw [endC_zero] at this
        simpa using this.symm
      subst he
      go_wp2_with fail
      go_ret
      exact ⟨rfl, hd⟩
    · have hlt := endC_lt (by omega) hinv.out
      obtain ⟨hok, hst⟩ := endC_stepZ hlt (by omega) hinv.out
      have Hst := Lib.hid hst
      have hna := arity_le hok
      have hfn := Lib.hid (fun h => cellOK_fun hok h)
      have hard := Lib.hid (show arity t[k] = if t[k].kind = 3 then t[k].n.toNat else 0 from rfl)
      clear hst hok hinv
      obtain ⟨b, off, rfl, -, hb, c0, c1, c2, ok0, ok1, ok2⟩ := (h5.below hbr fun _ _ h => h).cell hlt
      obtain ⟨c, hc⟩ : ∃ c, c = t[k] := ⟨_, rfl⟩
      rw [← hc] at c0 c1 c2 ok0 ok1 ok2 Hst hna hfn hard
      clear hc c1
      have hkl : (k : Int) < (t.length : Int) := by omega
      have hk0 : (0 : Int) ≤ (k : Int) := by omega
      have hnp : (0 : Int) < (n : Int) := by omega
      obtain ⟨m, rfl⟩ : ∃ m, n = m + 1 := ⟨n - 1, by omega⟩
      rw [Nat.add_sub_cancel] at Hst
      by_cases h3 : c.kind = 3
      · have hcn := hfn.out h3
        obtain ⟨a, ha⟩ : ∃ a : Nat, c.n = (a : Int) := ⟨c.n.toNat, by omega⟩
        have har : arity c = a := by rw [hard.out, if_pos h3]; omega
        rw [har] at Hst hna
        rw [ha] at c2
        rw [h3] at c0
        clear h3 hcn har ha hard hfn
        have hov : (m : Int) + (a : Int) ≤ 9000000000000000000 := by omega
        go_wp2_with fail
        go_roundw
        case rel => exact ⟨k + 1, m + a, hlt, by go_num, by go_num, by omega, Hst, hd⟩
        case measure => simp [intOf]; omega
      · have har : arity c = 0 := by rw [hard.out, if_neg h3]
        rw [har, Nat.add_zero] at Hst
        have h3' : (c.kind == 3) = false := by simpa using h3
        clear hard hfn
        go_wp2_with fail
        go_roundw
        case rel => exact ⟨k + 1, m, hlt, by go_num, by go_num, by omega, Hst, hd⟩
        case measure => simp [intOf]; omega
end
end Go.Proofs.YtckkjjiaecnciaaGreat
