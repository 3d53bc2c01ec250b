/-
  Terms, as plain lists of cells: which may be, where they end, their parts, their depth, their order.
  R01: cells, ends, right terms, the order.
  R01: right terms, the same ones, variables, ground ones, the order.
  R01: variables, ground terms, the order.
-/
import Derived.Test.YtckkjjiaecnciaaGreatBaseC
import Derived.Deep.QuietTactic
import Derived.StillTailTactics
namespace Go.Proofs.YtckkjjiaecnciaaGreat
section
open Go Go.RowKit

instance : DecidableEq Cell := fun a b => decidable_of_iff (a.kind = b.kind ∧ a.name = b.name ∧ a.n = b.n) (by cases a; cases b; simp)

/-! ### Cells -/
def oddB (b : UInt8) : Bool := decide (b.toNat < 32) || decide (126 < b.toNat) || decide (b.toNat = 39)
def nameOK (s : ByteArray) : Bool := decide (1 ≤ s.size) && decide (s.size ≤ 12) && s.toList.all fun b => !oddB b
def cellOK (c : Cell) : Bool :=
  if c.kind = 1 then decide (c.name.size = 0) && decide (0 ≤ c.n) && decide (c.n ≤ 999)
  else if c.kind = 2 then decide (c.name.size = 0) && decide (-2147483647 ≤ c.n) && decide (c.n ≤ 2147483647)
  else if c.kind = 3 then nameOK c.name && decide (0 ≤ c.n) && decide (c.n ≤ 6)
  else false
/-- How many arguments stand behind it. -/
def arity (c : Cell) : Nat := if c.kind = 3 then c.n.toNat else 0
theorem arity_le {c : Cell} (h : cellOK c = true) : arity c ≤ 6 := by
  unfold arity
  unfold cellOK at h
  split
  · rename_i h3
    simp only [h3, if_true] at h
    rw [if_neg (by omega), if_neg (by omega)] at h
    simp only [Bool.and_eq_true, decide_eq_true_eq] at h
    omega
  · omega

/-! ### Where so many terms end -/
def endC : Nat → List Cell → Option Nat
  | 0, _ => some 0
  | _ + 1, [] => none
  | k + 1, c :: l => if cellOK c = true then (endC (k + arity c) l).map (· + 1) else none
theorem endC_succ (k : Nat) (c : Cell) (l : List Cell) : endC (k + 1) (c :: l) = if cellOK c = true then (endC (k + arity c) l).map (· + 1) else none := rfl
theorem endC_zero (l : List Cell) : endC 0 l = some 0 := by cases l <;> rfl
theorem endC_le : ∀ {l : List Cell} {k m : Nat}, endC k l = some m → m ≤ l.length ∧ k ≤ m
  | l, 0, m, h => by rw [endC_zero] at h; simp at h; omega
  | [], k + 1, m, h => by simp [endC] at h
  | c :: l, k + 1, m, h => by
    unfold endC at h
    split at h
    · obtain ⟨m', hm', rfl⟩ := Option.map_eq_some_iff.1 h
      have := endC_le hm'
      simp only [List.length_cons]
      omega
    · simp at h
/-- Some terms, and others behind them. -/
theorem endC_add : ∀ (l : List Cell) (a b : Nat), endC (a + b) l = (endC a l).bind fun m => (endC b (l.drop m)).map (m + ·)
  | l, 0, b => by
    rw [endC_zero, Nat.zero_add]
    simp
  | [], a + 1, b => by
    rw [show a + 1 + b = (a + b) + 1 by omega]
    simp [endC]
  | c :: l, a + 1, b => by
    rw [show a + 1 + b = (a + b) + 1 by omega, endC_succ, endC_succ]
    split
    · rw [show a + b + arity c = a + arity c + b by omega, endC_add l (a + arity c) b]
      cases h : endC (a + arity c) l with
      | none => simp
      | some m =>
        simp only [Option.bind_some, Option.map_some, List.drop_succ_cons]
        cases endC b (l.drop m) with
        | none => simp
        | some m' => simp; omega
    · simp
theorem endC_one (c : Cell) (l : List Cell) : endC 1 (c :: l) = if cellOK c = true then (endC (arity c) l).map (· + 1) else none := by
  show (if cellOK c = true then (endC (0 + arity c) l).map (· + 1) else none) = _
  rw [Nat.zero_add]
/-- What comes behind plays no part. -/
theorem endC_append : ∀ {l : List Cell} {k m : Nat} (_ : endC k l = some m) (r : List Cell), endC k (l.take m ++ r) = some m
  | l, 0, m, h, r => by rw [endC_zero] at *; exact h
  | [], k + 1, m, h, r => by simp [endC] at h
  | c :: l, k + 1, m, h, r => by
    unfold endC at h
    split at h
    · rename_i hc
      obtain ⟨m', hm', rfl⟩ := Option.map_eq_some_iff.1 h
      have := endC_append hm' r
      rw [List.take_succ_cons, List.cons_append]
      unfold endC
      rw [if_pos hc, this]; rfl
    · simp at h

/-! ### Terms that may be -/
def RightT (t : List Cell) : Prop := t.length ≤ 200 ∧ endC 1 t = some t.length
instance (t : List Cell) : Decidable (RightT t) := by unfold RightT; infer_instance
def rightT (t : List Cell) : Bool := decide (RightT t)
theorem RightT.pos {t : List Cell} (h : RightT t) : 1 ≤ t.length := (endC_le h.2).2
theorem RightT.cons {t : List Cell} (h : RightT t) : ∃ c l, t = c :: l ∧ cellOK c = true ∧ endC (arity c) l = some l.length := by
  cases t with
  | nil => have := h.pos; simp at this
  | cons c l =>
    have h2 := h.2
    rw [endC_one] at h2
    split at h2
    · rename_i hc
      obtain ⟨m, hm, e⟩ := Option.map_eq_some_iff.1 h2
      simp only [List.length_cons, Nat.add_right_cancel_iff] at e
      subst e
      exact ⟨c, l, rfl, hc, hm⟩
    · simp at h2

/-- The terms that stand one behind the other, as many as there are. -/
def partsC : Nat → List Cell → List (List Cell)
  | 0, _ => []
  | k + 1, l => match endC 1 l with
    | none => []
    | some m => l.take m :: partsC k (l.drop m)
theorem partsC_len : ∀ {k : Nat} {l : List Cell} {m : Nat}, endC k l = some m → (partsC k l).length = k
  | 0, _, _, _ => rfl
  | k + 1, l, m, h => by
    rw [Nat.add_comm, endC_add] at h
    obtain ⟨m1, h1, h2⟩ := Option.bind_eq_some_iff.1 h
    obtain ⟨m2, h3, -⟩ := Option.map_eq_some_iff.1 h2
    unfold partsC
    simp only [h1, List.length_cons]
    rw [partsC_len h3]
theorem partsC_right : ∀ {k : Nat} {l : List Cell}, l.length ≤ 200 → ∀ p ∈ partsC k l, RightT p ∧ p.length ≤ l.length
  | 0, _, _, p, hp => by simp [partsC] at hp
  | k + 1, l, hl, p, hp => by
    unfold partsC at hp
    split at hp
    · simp at hp
    · rename_i m hm
      have hle := endC_le hm
      rcases List.mem_cons.1 hp with rfl | hp
      · have := endC_append hm []
        rw [List.append_nil] at this
        refine ⟨⟨by rw [List.length_take]; omega, ?_⟩, by rw [List.length_take]; omega⟩
        rw [this, List.length_take]
        congr 1; omega
      · have := partsC_right (k := k) (l := l.drop m) (by rw [List.length_drop]; omega) p hp
        refine ⟨this.1, ?_⟩
        have := this.2
        rw [List.length_drop] at this
        omega
def partsT : List Cell → List (List Cell)
  | [] => []
  | c :: l => partsC (arity c) l
theorem partsT_right {t : List Cell} (h : t.length ≤ 200) : ∀ p ∈ partsT t, RightT p ∧ p.length < t.length := by
  intro p hp
  cases t with
  | nil => simp [partsT] at hp
  | cons c l =>
    have := partsC_right (k := arity c) (l := l) (by simp at h; omega) p hp
    exact ⟨this.1, by simp only [List.length_cons]; omega⟩
def maxL : List Nat → Nat
  | [] => 0
  | a :: l => max a (maxL l)
def depthF : Nat → List Cell → Nat
  | 0, _ => 1
  | f + 1, t => maxL ((partsT t).map (depthF f)) + 1
def depthT (t : List Cell) : Nat := depthF t.length t
theorem depthF_eq : ∀ (f f' : Nat) (t : List Cell), t.length ≤ 200 → t.length ≤ f → t.length ≤ f' → depthF f t = depthF f' t
  | 0, 0, _, _, _, _ => rfl
  | 0, f' + 1, t, _, h, _ => by
    have : t = [] := List.eq_nil_of_length_eq_zero (by omega)
    subst this; rfl
  | f + 1, 0, t, _, _, h => by
    have : t = [] := List.eq_nil_of_length_eq_zero (by omega)
    subst this; rfl
  | f + 1, f' + 1, t, hl, h, h' => by
    unfold depthF
    congr 2
    refine List.map_congr_left fun p hp => ?_
    have := partsT_right hl p hp
    exact depthF_eq f f' p (by omega) (by omega) (by omega)
theorem depthT_eq {t : List Cell} (h : t.length ≤ 200) : depthT t = maxL ((partsT t).map depthT) + 1 := by
  cases t with
  | nil => rfl
  | cons c l =>
    show depthF (l.length + 1) (c :: l) = _
    unfold depthF
    congr 2
    refine List.map_congr_left fun p hp => ?_
    have := partsT_right h p hp
    simp only [List.length_cons] at this
    exact depthF_eq _ _ p (by simp at h; omega) (by omega) (Nat.le_refl _)
theorem maxL_le : ∀ {l : List Nat} {m : Nat}, (∀ x ∈ l, x ≤ m) → maxL l ≤ m
  | [], _, _ => Nat.zero_le _
  | a :: l, m, h => by
    unfold maxL
    have h1 := h a (by simp)
    have h2 := maxL_le (l := l) (m := m) fun x hx => h x (by simp [hx])
    omega
theorem depthF_le : ∀ (f : Nat) (t : List Cell), depthF f t ≤ f + 1
  | 0, _ => by simp [depthF]
  | f + 1, t => by
    unfold depthF
    have := maxL_le (l := (partsT t).map (depthF f)) (m := f + 1) fun x hx => by
      obtain ⟨p, -, rfl⟩ := List.mem_map.1 hx
      exact depthF_le f p
    omega
theorem depthT_le (t : List Cell) : depthT t ≤ t.length + 1 := depthF_le _ _

/-! ### Variables; facts -/
def groundT (t : List Cell) : Bool := t.all fun c => !decide (c.kind = 1)
def isFun (t : List Cell) : Bool := match t with
  | [] => false
  | c :: _ => decide (c.kind = 3)
def factT (t : List Cell) : Bool := rightT t && isFun t && groundT t && decide (depthT t ≤ 12)

/-! ### The order -/
def cmpZ (a b : Int) : Int := if a < b then -1 else if b < a then 1 else 0
def cmpS (a b : ByteArray) : Int := if Op.bytesLess a.toList b.toList = true then -1 else if Op.bytesLess b.toList a.toList = true then 1 else 0
def cmpC (x y : Cell) : Int := if cmpZ x.kind y.kind ≠ 0 then cmpZ x.kind y.kind else if cmpZ x.n y.n ≠ 0 then cmpZ x.n y.n else cmpS x.name y.name
def cmpT : List Cell → List Cell → Int
  | [], [] => 0
  | [], _ :: _ => -1
  | _ :: _, [] => 1
  | a :: l, b :: m => if cmpC a b ≠ 0 then cmpC a b else cmpT l m
/-- The document's, which looks no further than the shorter one. -/
def cmpR : List Cell → List Cell → Int
  | [], _ => 0
  | _, [] => 0
  | a :: l, b :: m => if cmpC a b ≠ 0 then cmpC a b else cmpR l m

theorem bytes_irr : ∀ l : List UInt8, Op.bytesLess l l = false
  | [] => rfl
  | a :: l => by simp [Op.bytesLess, bytes_irr l, UInt8.lt_irrefl]
theorem bytes_asymm : ∀ {l m : List UInt8}, Op.bytesLess l m = true → Op.bytesLess m l = false
  | _, [], h => by simp [Op.bytesLess] at h
  | [], _ :: _, _ => by simp [Op.bytesLess]
  | a :: l, b :: m, h => by
    simp only [Op.bytesLess, Bool.or_eq_true, decide_eq_true_eq, Bool.and_eq_true, beq_iff_eq, Bool.or_eq_false_iff, decide_eq_false_iff_not, Bool.and_eq_false_iff, beq_eq_false_iff_ne, ne_eq] at h ⊢
    rcases h with h | ⟨rfl, h⟩
    · rw [UInt8.lt_iff_toNat_lt] at *
      exact ⟨by omega, .inl fun e => by subst e; omega⟩
    · exact ⟨UInt8.lt_irrefl _, .inr (bytes_asymm h)⟩
theorem bytes_total : ∀ {l m : List UInt8}, Op.bytesLess l m = false → Op.bytesLess m l = false → l = m
  | [], [], _, _ => rfl
  | a :: l, [], _, h => by simp [Op.bytesLess] at h
  | [], _ :: _, h, _ => by simp [Op.bytesLess] at h
  | a :: l, b :: m, h, h' => by
    simp only [Op.bytesLess, Bool.or_eq_false_iff, decide_eq_false_iff_not, Bool.and_eq_false_iff, beq_eq_false_iff_ne, ne_eq] at h h'
    have e : a = b := by
      apply UInt8.toNat_inj.1
      have h1 := h.1; have h2 := h'.1
      rw [UInt8.lt_iff_toNat_lt] at h1 h2
      omega
    subst e
    rw [bytes_total (h.2.resolve_left fun h => h rfl) (h'.2.resolve_left fun h => h rfl)]
theorem bytes_trans : ∀ {l m k : List UInt8}, Op.bytesLess l m = true → Op.bytesLess m k = true → Op.bytesLess l k = true
  | _, [], _, h, _ => by simp [Op.bytesLess] at h
  | _, _ :: _, [], _, h => by simp [Op.bytesLess] at h
  | [], _ :: _, _ :: _, _, _ => by simp [Op.bytesLess]
  | a :: l, b :: m, c :: k, h, h' => by
    simp only [Op.bytesLess, Bool.or_eq_true, decide_eq_true_eq, Bool.and_eq_true, beq_iff_eq] at h h' ⊢
    rcases h with h | ⟨rfl, h⟩
    · rcases h' with h' | ⟨rfl, h'⟩
      · exact .inl (UInt8.lt_trans h h')
      · exact .inl h
    · rcases h' with h' | ⟨rfl, h'⟩
      · exact .inl h'
      · exact .inr ⟨rfl, bytes_trans h h'⟩
theorem toList_inj {a b : ByteArray} (h : a.toList = b.toList) : a = b := by
  rw [ByteArray.toList_eq, ByteArray.toList_eq] at h
  cases a; cases b; simp only at h; rw [Array.toList_inj.1 h]

theorem cmpZ_zero {a b : Int} : cmpZ a b = 0 ↔ a = b := by unfold cmpZ; split <;> (try split) <;> omega
theorem cmpZ_neg (a b : Int) : cmpZ b a = - cmpZ a b := by unfold cmpZ; split <;> split <;> (try split) <;> omega
theorem cmpZ_lt {a b : Int} : cmpZ a b < 0 ↔ a < b := by unfold cmpZ; split <;> (try split) <;> omega
theorem cmpS_zero {a b : ByteArray} : cmpS a b = 0 ↔ a = b := by
  unfold cmpS
  split
  · rename_i h
    refine ⟨fun h => by omega, ?_⟩
    rintro rfl; rw [bytes_irr] at h; simp at h
  · split
    · rename_i h
      refine ⟨fun h => by omega, ?_⟩
      rintro rfl; rw [bytes_irr] at h; simp at h
    · rename_i h1 h2
      exact ⟨fun _ => toList_inj (bytes_total (by simpa using h1) (by simpa using h2)), fun _ => rfl⟩
theorem cmpS_neg (a b : ByteArray) : cmpS b a = - cmpS a b := by
  unfold cmpS
  cases h : Op.bytesLess a.toList b.toList
  · cases h2 : Op.bytesLess b.toList a.toList <;> simp
  · simp [bytes_asymm h]
theorem cmpS_lt {a b : ByteArray} : cmpS a b < 0 ↔ Op.bytesLess a.toList b.toList = true := by
  unfold cmpS
  split
  · simp_all
  · split <;> simp_all
theorem cmpC_zero {x y : Cell} : cmpC x y = 0 ↔ x = y := by
  have h1 := @cmpZ_zero x.kind y.kind
  have h2 := @cmpZ_zero x.n y.n
  have h3 := @cmpS_zero x.name y.name
  have e : x = y ↔ x.kind = y.kind ∧ x.name = y.name ∧ x.n = y.n := by cases x; cases y; simp
  rw [e, ← h1, ← h2, ← h3]
  unfold cmpC
  by_cases e1 : cmpZ x.kind y.kind = 0
  · by_cases e2 : cmpZ x.n y.n = 0
    · simp [e1, e2]
    · simp [e1, e2]
  · simp [e1]
theorem cmpC_neg (x y : Cell) : cmpC y x = - cmpC x y := by
  unfold cmpC
  rw [cmpZ_neg x.kind, cmpZ_neg x.n, cmpS_neg x.name]
  by_cases e1 : cmpZ x.kind y.kind = 0
  · by_cases e2 : cmpZ x.n y.n = 0
    · simp [e1, e2]
    · simp [e1, e2]
  · simp [e1]
theorem cmpC_lt {x y : Cell} : cmpC x y < 0 ↔ x.kind < y.kind ∨ (x.kind = y.kind ∧ (x.n < y.n ∨ (x.n = y.n ∧ Op.bytesLess x.name.toList y.name.toList = true))) := by
  have h1 := @cmpZ_zero x.kind y.kind
  have h2 := @cmpZ_zero x.n y.n
  rw [← cmpS_lt, ← cmpZ_lt (a := x.kind), ← cmpZ_lt (a := x.n), ← h1, ← h2]
  unfold cmpC
  by_cases e1 : cmpZ x.kind y.kind = 0
  · by_cases e2 : cmpZ x.n y.n = 0
    · simp [e1, e2]
    · simp [e1, e2]
  · simp [e1]
theorem cmpC_trans {x y z : Cell} (h : cmpC x y < 0) (h' : cmpC y z < 0) : cmpC x z < 0 := by
  rw [cmpC_lt] at *
  rcases h with h | ⟨h1, h⟩
  · rcases h' with h' | ⟨h2, h'⟩ <;> exact .inl (by omega)
  · rcases h' with h' | ⟨h2, h'⟩
    · exact .inl (by omega)
    · refine .inr ⟨by omega, ?_⟩
      rcases h with h | ⟨h3, h⟩
      · rcases h' with h' | ⟨h4, h'⟩ <;> exact .inl (by omega)
      · rcases h' with h' | ⟨h4, h'⟩
        · exact .inl (by omega)
        · exact .inr ⟨by omega, bytes_trans h h'⟩
theorem cmpT_cons (a b : Cell) (l m : List Cell) : cmpT (a :: l) (b :: m) = if cmpC a b ≠ 0 then cmpC a b else cmpT l m := rfl
theorem cmpT_zero : ∀ {l m : List Cell}, cmpT l m = 0 ↔ l = m
  | [], [] => by simp [cmpT]
  | [], _ :: _ => by simp [cmpT]
  | _ :: _, [] => by simp [cmpT]
  | a :: l, b :: m => by
    have h1 := @cmpC_zero a b
    have h2 := @cmpT_zero l m
    rw [List.cons.injEq, ← h1, ← h2, cmpT_cons]
    by_cases e : cmpC a b = 0 <;> simp [e]
theorem cmpT_neg : ∀ l m : List Cell, cmpT m l = - cmpT l m
  | [], [] => rfl
  | [], _ :: _ => rfl
  | _ :: _, [] => rfl
  | a :: l, b :: m => by
    have h2 := cmpT_neg l m
    rw [cmpT_cons, cmpT_cons, cmpC_neg a b, h2]
    by_cases e : cmpC a b = 0 <;> simp [e]
theorem cmpT_trans : ∀ {l m k : List Cell}, cmpT l m < 0 → cmpT m k < 0 → cmpT l k < 0
  | [], [], _, h, _ => by simp [cmpT] at h
  | [], _ :: _, [], _, h => by simp [cmpT] at h
  | [], _ :: _, _ :: _, _, _ => by simp [cmpT]
  | _ :: _, [], _, h, _ => by simp [cmpT] at h
  | _ :: _, _ :: _, [], _, h => by simp [cmpT] at h
  | a :: l, b :: m, c :: k, h, h' => by
    have ih := @cmpT_trans l m k
    rw [cmpT_cons] at h h' ⊢
    by_cases e1 : cmpC a b = 0
    · have := cmpC_zero.1 e1; subst this
      rw [if_neg (by simp [e1])] at h
      by_cases e2 : cmpC a c = 0
      · rw [if_neg (by simp [e2])] at h'
        rw [if_neg (by simp [e2])]
        exact ih h h'
      · rw [if_pos e2] at h' ⊢
        exact h'
    · rw [if_pos e1] at h
      by_cases e2 : cmpC b c = 0
      · have := cmpC_zero.1 e2; subst this
        rw [if_pos e1]; exact h
      · rw [if_pos e2] at h'
        have := cmpC_trans h h'
        rw [if_pos (by omega)]; exact this
/-- Where none is the beginning of the other one they are the same. -/
theorem cmpR_eq : ∀ {k : Nat} {l m : List Cell}, endC k l = some l.length → endC k m = some m.length → cmpR l m = cmpT l m
  | 0, l, m, h, h' => by
    rw [endC_zero] at h h'
    simp only [Option.some.injEq] at h h'
    rw [List.eq_nil_of_length_eq_zero h.symm, List.eq_nil_of_length_eq_zero h'.symm]; rfl
  | k + 1, [], _, h, _ => by simp [endC] at h
  | k + 1, _ :: _, [], _, h => by simp [endC] at h
  | k + 1, a :: l, b :: m, h, h' => by
    unfold cmpR cmpT
    by_cases e : cmpC a b = 0
    · rw [if_neg (by simp [e]), if_neg (by simp [e])]
      have := cmpC_zero.1 e; subst this
      rw [endC_succ] at h h'
      split at h
      · rename_i hc
        rw [if_pos hc] at h'
        obtain ⟨x, hx, ex⟩ := Option.map_eq_some_iff.1 h
        obtain ⟨y, hy, ey⟩ := Option.map_eq_some_iff.1 h'
        simp only [List.length_cons, Nat.add_right_cancel_iff] at ex ey
        subst ex ey
        exact cmpR_eq hx hy
      · simp at h
    · rw [if_pos e, if_pos e]
end
section
open Go Go.RowKit

theorem name_none {s : ByteArray} {k : Nat} (hk : k < s.size) (h : oddB s[k] = true) : nameOK s = false := by
  unfold nameOK
  have hm : s[k] ∈ s.toList := by
    rw [ByteArray.toList_eq]; exact Array.getElem_mem_toList _
  have : (s.toList.all fun b => !oddB b) = false := by
    rw [List.all_eq_false]
    exact ⟨_, hm, by simp [h]⟩
  rw [this]; simp
theorem name_all {s : ByteArray} (h : ∀ k, ∀ hk : k < s.size, oddB s[k] = false) : nameOK s = (decide (1 ≤ s.size) && decide (s.size ≤ 12)) := by
  unfold nameOK
  have : (s.toList.all fun b => !oddB b) = true := by
    rw [List.all_eq_true]
    intro b hb
    rw [ByteArray.toList_eq] at hb
    obtain ⟨k, hk, rfl⟩ := List.mem_iff_getElem.1 hb
    have := h k hk
    simp only [Bool.not_eq_true']
    exact this
  rw [this]; simp

theorem name_spec {w : World} {s : ByteArray} (hs : s.size ≤ 140737488355328) :
    Calls Tryz.prog 89 #[.string s] w (PureV (.bool (nameOK s)) w) := by
  go_enter Tryz.func89, Tryz.ntmps89
  go_wp2
  go_loopw [3] (fun i wr => ∃ k : Nat, k ≤ s.size ∧ i = .int .i64 k ∧ w = wr ∧ Hid (∀ j, ∀ hj : j < s.size, j < k → oddB s[j] = false)) (fun i _ => s.size - (intOf i).toNat)
  case atStart => exact ⟨0, Nat.zero_le _, rfl, rfl, Lib.hid fun j _ h => by omega⟩
  case round =>
    obtain ⟨k, hk, rfl, rfl, hno⟩ := hrel
    by_cases hlt : k < s.size
    · have hkl : (k : Int) < (s.size : Int) := by omega
      have hk0 : (0 : Int) ≤ (k : Int) := by omega
      have hodd : oddB s[k] = (decide ((s[k].toNat : Int) < 32) || decide (126 < (s[k].toNat : Int)) || ((s[k].toNat : Int) == 39)) := by
        unfold oddB
        congr 1
        · congr 1 <;> (apply decide_eq_decide.2; omega)
        · rw [Bool.eq_iff_iff]; simp; omega
      have Hodd := Lib.hid hodd
      clear hodd
      go_wp2_with fail
      case roundEnd =>
        go_roundw
        case rel =>
          refine ⟨k + 1, hlt, by go_num, trivial, Lib.hid fun j hj h => ?_⟩
          by_cases hjk : j < k
          · exact hno.out j hj hjk
          · obtain rfl : j = k := by omega
            rw [Hodd.out]
            simp_all
        case measure => simp [intOf]; omega
      all_goals
        go_ret
        exact ⟨ret_bool (name_none hlt (by rw [Hodd.out]; simp_all)).symm, rfl⟩
    · obtain rfl : k = s.size := by omega
      have h1 := Lib.hid (name_all (s := s) fun j hj => hno.out j hj hj)
      go_wp2_with fail
      all_goals
        go_ret
        refine ⟨ret_bool ?_, rfl⟩
        rw [h1.out]
        first
          | (simp; omega)
          | (rw [Bool.eq_iff_iff]; simp only [decide_eq_true_eq, Bool.and_eq_true]; omega)

/-- A cell as a value. -/
def cellV (c : Cell) : Value := .agg #[.int .i64 c.kind, .string c.name, .int .i64 c.n]

theorem cell_spec {w : World} {c : Cell} (hs : c.name.size ≤ 140737488355328) :
    Calls Tryz.prog 56 #[cellV c] w (RetV (.bool (cellOK c)) w) := by
  have hem : decide (c.name.size = 0) = decide (c.name.toList = []) := by
    rw [Bool.eq_iff_iff, decide_eq_true_iff, decide_eq_true_iff, ByteArray.toList_eq]
    exact ⟨fun h => List.eq_nil_of_length_eq_zero (by simpa using h), fun h => by simpa using congrArg List.length h⟩
  have hok : cellOK c = (if c.kind = 1 then decide (c.name.toList = []) && decide (0 ≤ c.n) && decide (c.n ≤ 999)
    else if c.kind = 2 then decide (c.name.toList = []) && decide (-2147483647 ≤ c.n) && decide (c.n ≤ 2147483647)
    else if c.kind = 3 then nameOK c.name && decide (0 ≤ c.n) && decide (c.n ≤ 6)
    else false) := by rw [← hem]; rfl
  have Hok := Lib.hid hok
  clear hok hem
  unfold cellV
  go_enter Tryz.func56, Tryz.ntmps56
  by_cases h1 : c.kind = 1
  · go_wp2_with fail
    all_goals
      go_ret
      refine ⟨ret_bool ?_, Seq.way⟩
      rw [Hok.out]
      simp_all <;> omega
  · by_cases h2 : c.kind = 2
    · go_wp2_with fail
      all_goals
        go_ret
        refine ⟨ret_bool ?_, Seq.way⟩
        rw [Hok.out]
        simp_all <;> omega
    · by_cases h3 : c.kind = 3
      · go_wp2_with fail
        refine (name_spec hs).mono ?_
        rintro e w1 ⟨rfl, rfl⟩
        cases hn : nameOK c.name
        all_goals
          go_wp2_with fail
          all_goals
            go_ret
            refine ⟨ret_bool ?_, Seq.way⟩
            rw [Hok.out]
            simp_all <;> omega
      · go_wp2_with fail
        all_goals
          go_ret
          refine ⟨ret_bool ?_, Seq.way⟩
          rw [Hok.out]
          simp_all <;> omega

theorem cellOK_fun {c : Cell} (h : cellOK c = true) (h3 : c.kind = 3) : 0 ≤ c.n ∧ c.n ≤ 6 := by
  unfold cellOK at h
  rw [h3, if_neg (by omega), if_neg (by omega), if_pos rfl] at h
  simp only [Bool.and_eq_true, decide_eq_true_eq] at h
  omega

/-- Where the term ends that begins at a place: its place, or -1. -/
def endO (t : List Cell) (at_ : Nat) : Option Nat := (endC 1 (t.drop at_)).map (at_ + ·)
def optZ : Option Nat → Int
  | none => -1
  | some m => m
def endZ (t : List Cell) (at_ : Nat) : Int := optZ (endO t at_)

theorem endC_step {t : List Cell} {k o : Nat} (hk : k < t.length) (ho : 1 ≤ o) : (endC o (t.drop k)).map (k + ·) =
    if cellOK t[k] = true then (endC (o - 1 + arity t[k]) (t.drop (k + 1))).map (k + 1 + ·) else none := by
  obtain ⟨o', rfl⟩ : ∃ o', o = o' + 1 := ⟨o - 1, by omega⟩
  rw [List.drop_eq_getElem_cons hk, endC_succ, Nat.add_sub_cancel]
  split
  · rw [Option.map_map]
    congr 1
    funext m
    show k + (m + 1) = k + 1 + m
    omega
  · rfl

set_option maxHeartbeats 1600000 in
theorem End_spec {S : Nat → Prop} {w : World} {v : Value} {t : List Cell} {at_ : Nat} (ht : Seq cellE S w v t) (hat : at_ ≤ t.length) :
    Calls Tryz.prog 35 #[v, .int .i64 at_] w (RetV (.int .i64 (endZ t at_)) w) := by
  obtain ⟨ao, cap, rfl, h1, h2, h3, h4, h5⟩ := ht
  go_enter Tryz.func35, Tryz.ntmps35
  go_wp2_with fail
  go_loopw [5, 6] (fun o i wr => ∃ k n : Nat, k ≤ t.length ∧ i = .int .i64 k ∧ o = .int .i64 n ∧ 1 ≤ n ∧ n ≤ 1 + 6 * k ∧ Hid (endO t at_ = (endC n (t.drop k)).map (k + ·)) ∧ Below w.heap.size w wr) (fun _ i _ => t.length - (intOf i).toNat)
  case atStart => exact ⟨at_, 1, hat, rfl, rfl, Nat.le_refl _, by omega, Lib.hid rfl, Below.refl _ _⟩
  case round =>
    obtain ⟨k, n, hk, rfl, rfl, hn1, hn2, hinv, hbr⟩ := hrel
    by_cases hlt : k < t.length
    · obtain ⟨b, off, rfl, -, hb, c0, c1, c2, ok0, ok1, ok2⟩ := (h5.below hbr fun _ _ h => h).cell hlt
      have hst := endC_step (t := t) (o := n) hlt hn1
      have Hst := Lib.hid hst
      clear hst
      obtain ⟨c, hc⟩ : ∃ c, c = t[k] := ⟨_, rfl⟩
      rw [← hc] at c0 c1 c2 ok0 ok1 ok2 Hst
      clear hc
      have hkl : (k : Int) < (t.length : Int) := by omega
      have hk0 : (0 : Int) ≤ (k : Int) := by omega
      go_wp2_with fail
      refine (cell_spec (c := c) ok2).mono ?_
      rintro e w1 ⟨rfl, hb1⟩
      have hb1' := below_step hb1 hbr
      have e0 : w1.cell? ⟨b, off + k * 3, none⟩ = _ := (hb1.cell (p := ⟨b, off + k * 3, none⟩) hb).trans c0
      have e2 : w1.cell? ⟨b, off + k * 3 + 2, none⟩ = _ := (hb1.cell (p := ⟨b, off + k * 3 + 2, none⟩) hb).trans c2
      obtain ⟨m, rfl⟩ : ∃ m, n = m + 1 := ⟨n - 1, by omega⟩
      rw [Nat.add_sub_cancel] at Hst
      clear c0 c1 c2
      cases hok : cellOK c
      · have hz := Lib.hid (show endZ t at_ = -1 by unfold endZ; rw [hinv.out, Hst.out, hok]; rfl)
        go_wp2_with fail
        go_ret
        exact ⟨ret_int hz.out.symm, hb1'⟩
      · have hs := Lib.hid (show endO t at_ = (endC (m + arity c) (t.drop (k + 1))).map (k + 1 + ·) by rw [hinv.out, Hst.out, hok]; rfl)
        have hna := arity_le hok
        by_cases h3 : c.kind = 3
        · have hcn := cellOK_fun hok h3
          obtain ⟨a, ha⟩ : ∃ a : Nat, c.n = (a : Int) := ⟨c.n.toNat, by omega⟩
          have har : arity c = a := by unfold arity; rw [if_pos h3]; omega
          rw [har] at hs hna
          rw [ha] at e2
          rw [h3] at e0
          clear h3 hcn har ha
          have hov : (m : Int) + (a : Int) ≤ 9000000000000000000 := by omega
          by_cases hz : m + a = 0
          · have hz' : (m : Int) + (a : Int) = 0 := by omega
            have hr := Lib.hid (show endZ t at_ = (k : Int) + 1 by unfold endZ; rw [hs.out, hz, endC_zero]; rfl)
            clear hz
            go_wp2_with fail
            go_ret
            exact ⟨ret_int (by rw [hr.out]), hb1'⟩
          · have hz' : ¬ (m : Int) + (a : Int) = 0 := by omega
            go_wp2_with fail
            go_roundw
            case rel => exact ⟨k + 1, m + a, hlt, by go_num, by go_num, by omega, by omega, hs, hb1'⟩
            case measure => simp [intOf]; omega
        · have har : arity c = 0 := by unfold arity; rw [if_neg h3]
          rw [har, Nat.add_zero] at hs
          have h3' : (c.kind == 3) = false := by simpa using h3
          by_cases hz : m = 0
          · subst hz
            have hr := Lib.hid (show endZ t at_ = (k : Int) + 1 by unfold endZ; rw [hs.out, endC_zero]; rfl)
            go_wp2_with fail
            go_ret
            exact ⟨ret_int (by rw [hr.out]), hb1'⟩
          · have hz' : ¬ (m : Int) = 0 := by omega
            go_wp2_with fail
            go_roundw
            case rel => exact ⟨k + 1, m, hlt, by go_num, by go_num, by omega, by omega, hs, hb1'⟩
            case measure => simp [intOf]; omega
    · obtain rfl : k = t.length := by omega
      obtain ⟨m, rfl⟩ : ∃ m, n = m + 1 := ⟨n - 1, by omega⟩
      have hr := Lib.hid (show endZ t at_ = -1 by unfold endZ; rw [hinv.out, List.drop_length]; rfl)
      go_wp2_with fail
      go_ret
      exact ⟨ret_int hr.out.symm, hbr⟩
end
section
open Go Go.RowKit

theorem rightT_iff (t : List Cell) : rightT t = (decide (1 ≤ t.length) && decide (t.length ≤ 200) && decide (endZ t 0 = (t.length : Int))) := by
  unfold rightT endZ endO
  rw [Bool.eq_iff_iff, decide_eq_true_iff]
  simp only [decide_eq_true_eq, Bool.and_eq_true, List.drop_zero]
  show (t.length ≤ 200 ∧ endC 1 t = some t.length) ↔ _
  have h := @endC_le t 1
  cases he : endC 1 t with
  | none => simp [optZ]
  | some m =>
    have := h he
    simp [optZ]; omega

theorem RightR_spec {S : Nat → Prop} {w : World} {v : Value} {t : List Cell} (ht : Seq cellE S w v t) :
    Calls Tryz.prog 11 #[v] w (RetV (.bool (rightT t)) w) := by
  have Ht := Lib.hid ht
  have hr := Lib.hid (rightT_iff t)
  obtain ⟨ao, cap, rfl, h1, h2, h3, -⟩ := ht
  go_enter Tryz.func11, Tryz.ntmps11
  by_cases hl : 1 ≤ t.length ∧ t.length ≤ 200
  · obtain ⟨hl1, hl2⟩ := hl
    go_wp2_with fail
    refine (End_spec (at_ := 0) (Ht.out) (Nat.zero_le _)).mono ?_
    rintro e w1 ⟨rfl, hb1⟩
    go_wp2_with fail
    go_ret
    refine ⟨ret_bool ?_, hb1⟩
    rw [hr.out, Bool.eq_iff_iff]
    simp [hl1, hl2]
  · by_cases hl1 : 1 ≤ t.length
    · have hl2 : ¬ t.length ≤ 200 := fun h => hl ⟨hl1, h⟩
      go_wp2_with fail
      go_ret
      refine ⟨ret_bool ?_, Below.refl _ _⟩
      rw [hr.out]
      simp [hl2]
    · go_wp2_with fail
      go_ret
      refine ⟨ret_bool ?_, Below.refl _ _⟩
      rw [hr.out]
      simp [hl1]

/-! ### The same -/
theorem all_succ {α : Type} {l m : List α} {k : Nat} (h : ∀ j, j < k → l[j]? = m[j]?) (h1 : k < l.length) (h2 : k < m.length) (he : l[k] = m[k]) : ∀ j, j < k + 1 → l[j]? = m[j]? := by
  intro j hj
  by_cases hjk : j < k
  · exact h j hjk
  · obtain rfl : j = k := by omega
    rw [List.getElem?_eq_getElem h1, List.getElem?_eq_getElem h2, he]
theorem all_eq {α : Type} {l m : List α} (h : ∀ j, j < l.length → l[j]? = m[j]?) (h1 : l.length = m.length) : l = m := by
  apply List.ext_getElem?
  intro j
  by_cases hj : j < l.length
  · exact h j hj
  · rw [List.getElem?_eq_none (by omega), List.getElem?_eq_none (by omega)]
theorem cell_ne {x y : Cell} (h : ¬ x = y) : (x.kind == y.kind) = false ∨ ((x.kind == y.kind) = true ∧ (x.name.toList == y.name.toList) = false) ∨
    ((x.kind == y.kind) = true ∧ (x.name.toList == y.name.toList) = true ∧ (x.n == y.n) = false) := by
  by_cases h1 : x.kind = y.kind
  · by_cases h2 : x.name = y.name
    · refine .inr (.inr ⟨by simp [h1], by simp [h2], ?_⟩)
      rw [beq_eq_false_iff_ne]
      intro h3
      apply h
      cases x; cases y; simp_all
    · refine .inr (.inl ⟨by simp [h1], ?_⟩)
      rw [beq_eq_false_iff_ne]
      exact fun h3 => h2 (toList_inj h3)
  · exact .inl (by simp [h1])

set_option maxHeartbeats 1600000 in
set_option maxRecDepth 100000 in
theorem SameT_spec {S T : Nat → Prop} {w : World} {v u : Value} {a b : List Cell} (ha : Seq cellE S w v a) (hb : Seq cellE T w u b) :
    Calls Tryz.prog 28 #[v, u] w (QuietV (.bool (decide (a = b))) w) := by
  obtain ⟨aa, ac, rfl, -, -, hal, -, ha5⟩ := ha
  obtain ⟨ba, bc, rfl, -, -, hbl, -, hb5⟩ := hb
  go_enter Tryz.func28, Tryz.ntmps28
  by_cases hl : a.length = b.length
  · have hl' : ((a.length : Int) != (b.length : Int)) = false := by simp [hl]
    have Hl := Lib.hid hl
    clear hl
    go_wp2_with fail
    go_loopw [5] (fun i wr => ∃ k : Nat, k ≤ a.length ∧ i = .int .i64 k ∧ Hid (∀ j, j < k → a[j]? = b[j]?) ∧ Drew w wr) (fun i _ => a.length - (intOf i).toNat)
    case atStart => exact ⟨0, Nat.zero_le _, rfl, Lib.hid (by simp), Drew.refl _⟩
    case round =>
      obtain ⟨k, hk, rfl, hno, hdr⟩ := hrel
      obtain ⟨q, rfl⟩ := hdr
      by_cases hka : k < a.length
      · have hkb : k < b.length := by rw [← Hl.out]; exact hka
        obtain ⟨b1, o1, rfl, -, -, c0, c1, c2, -⟩ := ha5.cell hka
        obtain ⟨b2, o2, rfl, -, -, d0, d1, d2, -⟩ := hb5.cell hkb
        have hx := Lib.hid (show a[k] = b[k] → ∀ j, j < k + 1 → a[j]? = b[j]? from fun h => all_succ hno.out hka hkb h)
        have hn := Lib.hid (show a[k] ≠ b[k] → decide (a = b) = false from fun h => decide_eq_false fun e => by subst e; exact h rfl)
        clear ha5 hb5
        obtain ⟨x, hxe⟩ : ∃ x, x = a[k] := ⟨_, rfl⟩
        obtain ⟨y, hye⟩ : ∃ y, y = b[k] := ⟨_, rfl⟩
        rw [← hxe] at c0 c1 c2 hx hn
        rw [← hye] at d0 d1 d2 hx hn
        clear hxe hye
        have hkl : (k : Int) < (a.length : Int) := by omega
        have hkm : (k : Int) < (b.length : Int) := by omega
        have hk0 : (0 : Int) ≤ (k : Int) := by omega
        by_cases he : x = y
        · have hx' := Lib.hid (hx.out he)
          subst he
          clear hx hn
          go_wp2_with fail
          go_quiet (fail)
          go_wp2_with fail
          go_roundw
          case rel => exact ⟨k + 1, hka, by go_num, hx', (by repeat (first | exact Drew.of _ _ | refine Drew.drewN ?_ _))⟩
          case measure => simp [intOf]; omega
        · have hn' := Lib.hid (hn.out he)
          rcases cell_ne he with q1 | ⟨q1, q2⟩ | ⟨q1, q2, q3⟩
          all_goals
            clear hx hn he
            go_wp2_with fail
            go_quiet (fail)
            go_wp2_with fail
            go_ret
            exact ⟨ret_bool hn'.out.symm, (by repeat (first | exact Drew.of _ _ | refine Drew.drewN ?_ _))⟩
      · obtain rfl : k = a.length := by omega
        have he := Lib.hid (show decide (a = b) = true from decide_eq_true (all_eq hno.out Hl.out))
        go_wp2_with fail
        go_ret
        exact ⟨ret_bool he.out.symm, Drew.of _ _⟩
  · have hd := Lib.hid (show decide (a = b) = false from decide_eq_false fun h => hl (by rw [h]))
    go_wp2_with fail
    go_ret
    exact ⟨ret_bool hd.out.symm, Drew.refl _⟩

theorem Drew.below {w w' : World} (h : Drew w w') (B : Nat) : Below B w w' := by
  obtain ⟨n, rfl⟩ := h
  exact below_drewN (Below.refl _ _) _
theorem Drew.trans {w w1 w2 : World} (h : Drew w w1) (h' : Drew w1 w2) : Drew w w2 := by
  obtain ⟨n, rfl⟩ := h
  obtain ⟨m, rfl⟩ := h'
  exact ⟨n + m, by rw [World.drewN_drewN]⟩
theorem Drew.drew {w w' : World} (h : Drew w w') : Drew w w'.drew := h.drewN 1
theorem drew_more {w w1 : World} {q : Nat} (h : Drew (w.drewN q) w1) : Drew w w1 := by
  obtain ⟨n, rfl⟩ := h
  exact ⟨q + n, by rw [World.drewN_drewN]⟩

set_option maxHeartbeats 1600000 in
set_option maxRecDepth 100000 in
theorem SameAll_spec {S T : Nat → Prop} {w : World} {v u : Value} {a b : List (List Cell)} (ha : Seq (seqE cellE) S w v a) (hb : Seq (seqE cellE) T w u b) :
    Calls Tryz.prog 27 #[v, u] w (QuietV (.bool (decide (a = b))) w) := by
  obtain ⟨aa, ac, rfl, -, -, hal, -, ha5⟩ := ha
  obtain ⟨ba, bc, rfl, -, -, hbl, -, hb5⟩ := hb
  go_enter Tryz.func27, Tryz.ntmps27
  by_cases hl : a.length = b.length
  · have hl' : ((a.length : Int) != (b.length : Int)) = false := by simp [hl]
    have Hl := Lib.hid hl
    clear hl
    go_wp2_with fail
    go_loopw [5] (fun i wr => ∃ k : Nat, k ≤ a.length ∧ i = .int .i64 k ∧ Hid (∀ j, j < k → a[j]? = b[j]?) ∧ Drew w wr) (fun i _ => a.length - (intOf i).toNat)
    case atStart => exact ⟨0, Nat.zero_le _, rfl, Lib.hid (by simp), Drew.refl _⟩
    case round =>
      obtain ⟨k, hk, rfl, hno, hdr⟩ := hrel
      have hbr := hdr.below w.heap.size
      have hzr := hbr.size
      by_cases hka : k < a.length
      · have hkb : k < b.length := by rw [← Hl.out]; exact hka
        obtain ⟨b1, o1, p1, n1, rfl, -, -, c0, hX⟩ := (ha5.below hbr fun _ _ h => h).seq hka
        obtain ⟨b2, o2, p2, n2, rfl, -, -, d0, hY⟩ := (hb5.below hbr fun _ _ h => h).seq hkb
        have hx := Lib.hid (show a[k] = b[k] → ∀ j, j < k + 1 → a[j]? = b[j]? from fun h => all_succ hno.out hka hkb h)
        have hn := Lib.hid (show a[k] ≠ b[k] → decide (a = b) = false from fun h => decide_eq_false fun e => by subst e; exact h rfl)
        have HX := Lib.hid hX
        have HY := Lib.hid hY
        clear hX hY
        obtain ⟨x, hxe⟩ : ∃ x, x = a[k] := ⟨_, rfl⟩
        obtain ⟨y, hye⟩ : ∃ y, y = b[k] := ⟨_, rfl⟩
        rw [← hxe] at c0 HX hx hn
        rw [← hye] at d0 HY hx hn
        clear hxe hye
        have hkl : (k : Int) < (a.length : Int) := by omega
        have hkm : (k : Int) < (b.length : Int) := by omega
        have hk0 : (0 : Int) ≤ (k : Int) := by omega
        go_wp2_with fail
        go_still_tail 8, (by kernel_rfl)
        go_wp2_with fail
        refine (SameT_spec (HX.out.at Seq.way) (HY.out.at Seq.way)).mono ?_
        rintro e w1 ⟨rfl, hq⟩
        have hq' : Drew w w1 := hdr.trans (Drew.trans (Drew.of wr 1) hq)
        clear hq
        by_cases he : x = y
        · have hx' := Lib.hid (hx.out he)
          have hd : decide (x = y) = true := by simp [he]
          rw [hd]
          go_wp2_with fail
          go_roundw
          case rel => exact ⟨k + 1, hka, by go_num, hx', hq'⟩
          case measure => simp [intOf]; omega
        · have hn' := Lib.hid (hn.out he)
          have hd : decide (x = y) = false := by simp [he]
          rw [hd]
          go_wp2_with fail
          go_ret
          exact ⟨ret_bool hn'.out.symm, hq'⟩
      · obtain rfl : k = a.length := by omega
        have he := Lib.hid (show decide (a = b) = true from decide_eq_true (all_eq hno.out Hl.out))
        go_wp2_with fail
        go_ret
        exact ⟨ret_bool he.out.symm, hdr⟩
  · have hd := Lib.hid (show decide (a = b) = false from decide_eq_false fun h => hl (by rw [h]))
    go_wp2_with fail
    go_ret
    exact ⟨ret_bool hd.out.symm, Drew.refl _⟩
end
section
open Go Go.RowKit

theorem infoInt : (Tryz.prog.info? 3).map (fun i => (i.zero, i.size, i.bytes)) = some (some (.int .i64 0), 1, 8) := by kernel_rfl

/-! ### In -/
theorem InT_spec {S : Nat → Prop} {w : World} {v : Value} {l : List Int} {n : Int} (hl : Seq intE S w v l) :
    Calls Tryz.prog 88 #[v, .int .i64 n] w (PureV (.bool (decide (n ∈ l))) w) := by
  obtain ⟨ao, cap, rfl, h1, h2, h3, -, h5⟩ := hl
  go_enter Tryz.func88, Tryz.ntmps88
  go_wp2_with fail
  go_loopw [5] (fun i wr => ∃ k : Nat, k ≤ l.length ∧ i = .int .i64 k ∧ Hid (¬ n ∈ l.take k) ∧ w = wr) (fun i _ => l.length - (intOf i).toNat)
  case atStart => exact ⟨0, Nat.zero_le _, rfl, Lib.hid (by simp), rfl⟩
  case round =>
    obtain ⟨k, hk, rfl, hno, rfl⟩ := hrel
    by_cases hlt : k < l.length
    · obtain ⟨b, off, rfl, -, -, c0, -⟩ := h5.int hlt
      have hy := Lib.hid (show l[k] = n → decide (n ∈ l) = true from fun h => decide_eq_true (h ▸ List.getElem_mem hlt))
      have hz := Lib.hid (show l[k] ≠ n → ¬ n ∈ l.take (k + 1) from fun h => by
        rw [List.take_succ_eq_append_getElem hlt, List.mem_append]
        simp only [List.mem_singleton, not_or]
        exact ⟨hno.out, fun e => h e.symm⟩)
      obtain ⟨x, hx⟩ : ∃ x, x = l[k] := ⟨_, rfl⟩
      rw [← hx] at c0 hy hz
      clear hx h5
      have hkl : (k : Int) < (l.length : Int) := by omega
      have hk0 : (0 : Int) ≤ (k : Int) := by omega
      by_cases he : x = n
      · have hy' := Lib.hid (hy.out he)
        have he' : (x == n) = true := by simp [he]
        clear hy hz he
        go_wp2_with fail
        go_ret
        exact ⟨ret_bool hy'.out.symm, rfl⟩
      · have hz' := Lib.hid (hz.out he)
        have he' : (x == n) = false := by simp [he]
        clear hy hz he
        go_wp2_with fail
        go_roundw
        case rel => exact ⟨k + 1, hlt, by go_num, hz', trivial⟩
        case measure => simp [intOf]; omega
    · obtain rfl : k = l.length := by omega
      have hd := Lib.hid (show decide (n ∈ l) = false from decide_eq_false (by have := hno.out; rwa [List.take_length] at this))
      go_wp2_with fail
      go_ret
      exact ⟨ret_bool hd.out.symm, rfl⟩

/-! ### The order -/
theorem cmpR_step {a b : List Cell} {k : Nat} (hk : k < a.length) (hk' : k < b.length) : cmpR (a.drop k) (b.drop k) = if cmpC a[k] b[k] ≠ 0 then cmpC a[k] b[k] else cmpR (a.drop (k + 1)) (b.drop (k + 1)) := by
  rw [List.drop_eq_getElem_cons hk, List.drop_eq_getElem_cons hk']; rfl
theorem cmpR_end {a b : List Cell} {k : Nat} (hk : ¬ (k < a.length ∧ k < b.length)) : cmpR (a.drop k) (b.drop k) = 0 := by
  by_cases h : k < a.length
  · rw [List.drop_eq_nil_of_le (show b.length ≤ k by omega)]
    cases a.drop k <;> rfl
  · rw [List.drop_eq_nil_of_le (show a.length ≤ k by omega)]; rfl
theorem cmpZ_val (a b : Int) : cmpZ a b = -1 ∨ cmpZ a b = 0 ∨ cmpZ a b = 1 := by unfold cmpZ; split <;> (try split) <;> simp
theorem cmpS_val (a b : ByteArray) : cmpS a b = -1 ∨ cmpS a b = 0 ∨ cmpS a b = 1 := by unfold cmpS; split <;> (try split) <;> simp
theorem cmpC_val (x y : Cell) : cmpC x y = -1 ∨ cmpC x y = 0 ∨ cmpC x y = 1 := by
  unfold cmpC
  split
  · exact cmpZ_val _ _
  · split
    · exact cmpZ_val _ _
    · exact cmpS_val _ _
theorem cmpC_m1 {x y : Cell} (h : x.kind < y.kind ∨ (x.kind = y.kind ∧ (x.n < y.n ∨ (x.n = y.n ∧ Op.bytesLess x.name.toList y.name.toList = true)))) : cmpC x y = -1 := by
  have h1 := cmpC_lt.2 h
  have h2 := cmpC_val x y
  omega
theorem cmpC_p1 {x y : Cell} (hne : x ≠ y) (h : ¬ (x.kind < y.kind ∨ (x.kind = y.kind ∧ (x.n < y.n ∨ (x.n = y.n ∧ Op.bytesLess x.name.toList y.name.toList = true))))) : cmpC x y = 1 := by
  have h1 : ¬ cmpC x y < 0 := fun e => h (cmpC_lt.1 e)
  have h2 := cmpC_val x y
  have h3 : ¬ cmpC x y = 0 := fun e => hne (cmpC_zero.1 e)
  omega

set_option maxHeartbeats 1600000 in
set_option maxRecDepth 100000 in
theorem CompareR_spec {S T : Nat → Prop} {w : World} {v u : Value} {a b : List Cell} (ha : Seq cellE S w v a) (hb : Seq cellE T w u b) :
    Calls Tryz.prog 29 #[v, u] w (RetV (.int .i64 (cmpR a b)) w) := by
  obtain ⟨aa, ac, rfl, -, -, hal, -, ha5⟩ := ha
  obtain ⟨ba, bc, rfl, -, -, hbl, -, hb5⟩ := hb
  go_enter Tryz.func29, Tryz.ntmps29
  go_wp2_with fail
  go_loopw [5] (fun i wr => ∃ k : Nat, k ≤ a.length ∧ k ≤ b.length ∧ i = .int .i64 k ∧ Hid (cmpR a b = cmpR (a.drop k) (b.drop k)) ∧ Below w.heap.size w wr) (fun i _ => a.length - (intOf i).toNat)
  case atStart => exact ⟨0, Nat.zero_le _, Nat.zero_le _, rfl, Lib.hid rfl, Below.refl _ _⟩
  case round =>
    obtain ⟨k, hk, hk', rfl, hno, hbr⟩ := hrel
    have hzr := hbr.size
    by_cases hka : k < a.length
    · by_cases hkb : k < b.length
      · obtain ⟨b1, o1, rfl, -, l1, c0, c1, c2, -⟩ := (ha5.below hbr fun _ _ h => h).cell hka
        obtain ⟨b2, o2, rfl, -, l2, d0, d1, d2, -⟩ := (hb5.below hbr fun _ _ h => h).cell hkb
        have hst := Lib.hid (cmpR_step hka hkb)
        clear ha5 hb5
        obtain ⟨x, hxe⟩ : ∃ x, x = a[k] := ⟨_, rfl⟩
        obtain ⟨y, hye⟩ : ∃ y, y = b[k] := ⟨_, rfl⟩
        rw [← hxe] at c0 c1 c2 hst
        rw [← hye] at d0 d1 d2 hst
        clear hxe hye
        have hkl : (k : Int) < (a.length : Int) := by omega
        have hkm : (k : Int) < (b.length : Int) := by omega
        have hk0 : (0 : Int) ≤ (k : Int) := by omega
        by_cases he : x = y
        · have hx' := Lib.hid (show cmpR a b = cmpR (a.drop (k + 1)) (b.drop (k + 1)) by rw [hno.out, hst.out, if_neg (by simp [cmpC_zero, he])])
          subst he
          clear hst hno
          go_wp2_with fail
          go_roundw
          case rel => exact ⟨k + 1, hka, hkb, by go_num, hx', (Seq.way : Below w.heap.size w _)⟩
          case measure => simp [intOf]; omega
        · have hz := Lib.hid (show cmpR a b = cmpC x y by rw [hno.out, hst.out, if_pos (by simp [cmpC_zero, he])])
          have hm := Lib.hid (cmpC_m1 (x := x) (y := y))
          have hp := Lib.hid (cmpC_p1 he)
          clear hst hno
          rcases cell_ne he with q1 | ⟨q1, q2⟩ | ⟨q1, q2, q3⟩
          · clear he
            have q1' : x.kind ≠ y.kind := by simpa using q1
            by_cases hlt : x.kind < y.kind
            · go_wp2_with fail
              go_ret
              exact ⟨ret_int (by rw [hz.out]; exact (hm.out (.inl hlt)).symm), (Seq.way : Below w.heap.size w _)⟩
            · go_wp2_with fail
              go_ret
              exact ⟨ret_int (by rw [hz.out]; exact (hp.out (by omega)).symm), (Seq.way : Below w.heap.size w _)⟩
          · have q1' : x.kind = y.kind := by simpa using q1
            clear he q1
            by_cases hlt : x.n < y.n
            · go_wp2_with fail
              go_ret
              exact ⟨ret_int (by rw [hz.out]; exact (hm.out (.inr ⟨q1', .inl hlt⟩)).symm), (Seq.way : Below w.heap.size w _)⟩
            · by_cases heq : x.n = y.n
              · have hnl : ¬ x.n < y.n := by omega
                have hkl2 : ¬ x.kind < y.kind := by omega
                cases hbl2 : Op.bytesLess x.name.toList y.name.toList
                · go_wp2_with fail
                  go_ret
                  exact ⟨ret_int (by rw [hz.out]; exact (hp.out (by simp [hbl2]; omega)).symm), (Seq.way : Below w.heap.size w _)⟩
                · go_wp2_with fail
                  go_ret
                  exact ⟨ret_int (by rw [hz.out]; exact (hm.out (.inr ⟨q1', .inr ⟨heq, hbl2⟩⟩)).symm), (Seq.way : Below w.heap.size w _)⟩
              · go_wp2_with fail
                go_ret
                exact ⟨ret_int (by rw [hz.out]; exact (hp.out (by omega)).symm), (Seq.way : Below w.heap.size w _)⟩
          · have q1' : x.kind = y.kind := by simpa using q1
            have q3' : x.n ≠ y.n := by simpa using q3
            clear he q1
            by_cases hlt : x.n < y.n
            · go_wp2_with fail
              go_ret
              exact ⟨ret_int (by rw [hz.out]; exact (hm.out (.inr ⟨q1', .inl hlt⟩)).symm), (Seq.way : Below w.heap.size w _)⟩
            · go_wp2_with fail
              go_ret
              exact ⟨ret_int (by rw [hz.out]; exact (hp.out (by omega)).symm), (Seq.way : Below w.heap.size w _)⟩
      · obtain rfl : k = b.length := by omega
        have hz := Lib.hid (show cmpR a b = 0 by rw [hno.out, cmpR_end (by omega)])
        go_wp2_with fail
        go_ret
        exact ⟨ret_int hz.out.symm, hbr⟩
    · obtain rfl : k = a.length := by omega
      have hz := Lib.hid (show cmpR a b = 0 by rw [hno.out, cmpR_end (by omega)])
      go_wp2_with fail
      go_ret
      exact ⟨ret_int hz.out.symm, hbr⟩
end
end Go.Proofs.YtckkjjiaecnciaaGreat
