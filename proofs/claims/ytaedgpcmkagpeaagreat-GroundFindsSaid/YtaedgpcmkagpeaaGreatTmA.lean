/-
  Terms, as plain lists of cells: which may be, where they end, their parts, their depth, their order.
-/
import Derived.Test.YtaedgpcmkagpeaaGreatBaseC
namespace Go.Proofs.YtaedgpcmkagpeaaGreat
open Go Go.RowKit

instance : DecidableEq Cell := fun a b => decidable_of_iff (a.kind = b.kind ∧ a.name = b.name ∧ a.n = b.n) (by cases a; cases b; simp)

/-! ### Cells -/
def oddB (b : UInt8) : Bool := decide (b.toNat < 32) || decide (126 < b.toNat) || decide (b.toNat = 39)
def nameOK (s : ByteArray) : Bool := decide (1 ≤ s.size) && decide (s.size ≤ 12) && s.toList.all fun b => !oddB b
def cellOK (c : Cell) : Bool :=
  if c.kind = 1 then decide (c.name.size = 0) && decide (0 ≤ c.n) && decide (c.n ≤ 999)
  else if c.kind = 2 then decide (c.name.size = 0) && decide (-2147483647 ≤ c.n) && decide (c.n ≤ 2147483647)
  else if c.kind = 3 then nameOK c.name && decide (0 ≤ c.n) && decide (c.n ≤ 6)
  else false
/-- How many arguments stand behind it. -/
def arity (c : Cell) : Nat := if c.kind = 3 then c.n.toNat else 0
theorem arity_le {c : Cell} (h : cellOK c = true) : arity c ≤ 6 := by
  unfold arity
  unfold cellOK at h
  split
  · rename_i h3
    simp only [h3, if_true] at h
    rw [if_neg (by omega), if_neg (by omega)] at h
    simp only [Bool.and_eq_true, decide_eq_true_eq] at h
    omega
  · omega

/-! ### Where so many terms end -/
def endC : Nat → List Cell → Option Nat
  | 0, _ => some 0
  | _ + 1, [] => none
  | k + 1, c :: l => if cellOK c = true then (endC (k + arity c) l).map (· + 1) else none
theorem endC_succ (k : Nat) (c : Cell) (l : List Cell) : endC (k + 1) (c :: l) = if cellOK c = true then (endC (k + arity c) l).map (· + 1) else none := rfl
theorem endC_zero (l : List Cell) : endC 0 l = some 0 := by cases l <;> rfl
theorem endC_le : ∀ {l : List Cell} {k m : Nat}, endC k l = some m → m ≤ l.length ∧ k ≤ m
  | l, 0, m, h => by rw [endC_zero] at h; simp at h; omega
  | [], k + 1, m, h => by simp [endC] at h
  | c :: l, k + 1, m, h => by
    unfold endC at h
    split at h
    · obtain ⟨m', hm', rfl⟩ := Option.map_eq_some_iff.1 h
      have := endC_le hm'
      simp only [List.length_cons]
      omega
    · simp at h
/-- Some terms, and others behind them. -/
theorem endC_add : ∀ (l : List Cell) (a b : Nat), endC (a + b) l = (endC a l).bind fun m => (endC b (l.drop m)).map (m + ·)
  | l, 0, b => by
    rw [endC_zero, Nat.zero_add]
    simp
  | [], a + 1, b => by
    rw [show a + 1 + b = (a + b) + 1 by omega]
    simp [endC]
  | c :: l, a + 1, b => by
    rw [show a + 1 + b = (a + b) + 1 by omega, endC_succ, endC_succ]
    split
    · rw [show a + b + arity c = a + arity c + b by omega, endC_add l (a + arity c) b]
      cases h : endC (a + arity c) l with
      | none => simp
      | some m =>
        simp only [Option.bind_some, Option.map_some, List.drop_succ_cons]
        cases endC b (l.drop m) with
        | none => simp
        | some m' => simp; omega
    · simp
theorem endC_one (c : Cell) (l : List Cell) : endC 1 (c :: l) = if cellOK c = true then (endC (arity c) l).map (· + 1) else none := by
  show (if cellOK c = true then (endC (0 + arity c) l).map (· + 1) else none) = _
  rw [Nat.zero_add]
/-- What comes behind plays no part. -/
theorem endC_append : ∀ {l : List Cell} {k m : Nat} (_ : endC k l = some m) (r : List Cell), endC k (l.take m ++ r) = some m
  | l, 0, m, h, r => by rw [endC_zero] at *; exact h
  | [], k + 1, m, h, r => by simp [endC] at h
  | c :: l, k + 1, m, h, r => by
    unfold endC at h
    split at h
    · rename_i hc
      obtain ⟨m', hm', rfl⟩ := Option.map_eq_some_iff.1 h
      have := endC_append hm' r
      rw [List.take_succ_cons, List.cons_append]
      unfold endC
      rw [if_pos hc, this]; rfl
    · simp at h

/-! ### Terms that may be -/
def RightT (t : List Cell) : Prop := t.length ≤ 200 ∧ endC 1 t = some t.length
instance (t : List Cell) : Decidable (RightT t) := by unfold RightT; infer_instance
def rightT (t : List Cell) : Bool := decide (RightT t)
theorem RightT.pos {t : List Cell} (h : RightT t) : 1 ≤ t.length := (endC_le h.2).2
theorem RightT.cons {t : List Cell} (h : RightT t) : ∃ c l, t = c :: l ∧ cellOK c = true ∧ endC (arity c) l = some l.length := by
  cases t with
  | nil => have := h.pos; simp at this
  | cons c l =>
    have h2 := h.2
    rw [endC_one] at h2
    split at h2
    · rename_i hc
      obtain ⟨m, hm, e⟩ := Option.map_eq_some_iff.1 h2
      simp only [List.length_cons, Nat.add_right_cancel_iff] at e
      subst e
      exact ⟨c, l, rfl, hc, hm⟩
    · simp at h2

/-- The terms that stand one behind the other, as many as there are. -/
def partsC : Nat → List Cell → List (List Cell)
  | 0, _ => []
  | k + 1, l => match endC 1 l with
    | none => []
    | some m => l.take m :: partsC k (l.drop m)
theorem partsC_len : ∀ {k : Nat} {l : List Cell} {m : Nat}, endC k l = some m → (partsC k l).length = k
  | 0, _, _, _ => rfl
  | k + 1, l, m, h => by
    rw [Nat.add_comm, endC_add] at h
    obtain ⟨m1, h1, h2⟩ := Option.bind_eq_some_iff.1 h
    obtain ⟨m2, h3, -⟩ := Option.map_eq_some_iff.1 h2
    unfold partsC
    simp only [h1, List.length_cons]
    rw [partsC_len h3]
theorem partsC_right : ∀ {k : Nat} {l : List Cell}, l.length ≤ 200 → ∀ p ∈ partsC k l, RightT p ∧ p.length ≤ l.length
  | 0, _, _, p, hp => by simp [partsC] at hp
  | k + 1, l, hl, p, hp => by
    unfold partsC at hp
    split at hp
    · simp at hp
    · rename_i m hm
      have hle := endC_le hm
      rcases List.mem_cons.1 hp with rfl | hp
      · have := endC_append hm []
        rw [List.append_nil] at this
        refine ⟨⟨by rw [List.length_take]; omega, ?_⟩, by rw [List.length_take]; omega⟩
        rw [this, List.length_take]
        congr 1; omega
      · have := partsC_right (k := k) (l := l.drop m) (by rw [List.length_drop]; omega) p hp
        refine ⟨this.1, ?_⟩
        have := this.2
        rw [List.length_drop] at this
        omega
def partsT : List Cell → List (List Cell)
  | [] => []
  | c :: l => partsC (arity c) l
theorem partsT_right {t : List Cell} (h : t.length ≤ 200) : ∀ p ∈ partsT t, RightT p ∧ p.length < t.length := by
  intro p hp
  cases t with
  | nil => simp [partsT] at hp
  | cons c l =>
    have := partsC_right (k := arity c) (l := l) (by simp at h; omega) p hp
    exact ⟨this.1, by simp only [List.length_cons]; omega⟩
def maxL : List Nat → Nat
  | [] => 0
  | a :: l => max a (maxL l)
def depthF : Nat → List Cell → Nat
  | 0, _ => 1
  | f + 1, t => maxL ((partsT t).map (depthF f)) + 1
def depthT (t : List Cell) : Nat := depthF t.length t
theorem depthF_eq : ∀ (f f' : Nat) (t : List Cell), t.length ≤ 200 → t.length ≤ f → t.length ≤ f' → depthF f t = depthF f' t
  | 0, 0, _, _, _, _ => rfl
  | 0, f' + 1, t, _, h, _ => by
    have : t = [] := List.eq_nil_of_length_eq_zero (by omega)
    subst this; rfl
  | f + 1, 0, t, _, _, h => by
    have : t = [] := List.eq_nil_of_length_eq_zero (by omega)
    subst this; rfl
  | f + 1, f' + 1, t, hl, h, h' => by
    unfold depthF
    congr 2
    refine List.map_congr_left fun p hp => ?_
    have := partsT_right hl p hp
    exact depthF_eq f f' p (by omega) (by omega) (by omega)
theorem depthT_eq {t : List Cell} (h : t.length ≤ 200) : depthT t = maxL ((partsT t).map depthT) + 1 := by
  cases t with
  | nil => rfl
  | cons c l =>
    show depthF (l.length + 1) (c :: l) = _
    unfold depthF
    congr 2
    refine List.map_congr_left fun p hp => ?_
    have := partsT_right h p hp
    simp only [List.length_cons] at this
    exact depthF_eq _ _ p (by simp at h; omega) (by omega) (Nat.le_refl _)
theorem maxL_le : ∀ {l : List Nat} {m : Nat}, (∀ x ∈ l, x ≤ m) → maxL l ≤ m
  | [], _, _ => Nat.zero_le _
  | a :: l, m, h => by
    unfold maxL
    have h1 := h a (by simp)
    have h2 := maxL_le (l := l) (m := m) fun x hx => h x (by simp [hx])
    omega
theorem depthF_le : ∀ (f : Nat) (t : List Cell), depthF f t ≤ f + 1
  | 0, _ => by simp [depthF]
  | f + 1, t => by
    unfold depthF
    have := maxL_le (l := (partsT t).map (depthF f)) (m := f + 1) fun x hx => by
      obtain ⟨p, -, rfl⟩ := List.mem_map.1 hx
      exact depthF_le f p
    omega
theorem depthT_le (t : List Cell) : depthT t ≤ t.length + 1 := depthF_le _ _

/-! ### Variables; facts -/
def groundT (t : List Cell) : Bool := t.all fun c => !decide (c.kind = 1)
def isFun (t : List Cell) : Bool := match t with
  | [] => false
  | c :: _ => decide (c.kind = 3)
def factT (t : List Cell) : Bool := rightT t && isFun t && groundT t && decide (depthT t ≤ 12)

/-! ### The order -/
def cmpZ (a b : Int) : Int := if a < b then -1 else if b < a then 1 else 0
def cmpS (a b : ByteArray) : Int := if Op.bytesLess a.toList b.toList = true then -1 else if Op.bytesLess b.toList a.toList = true then 1 else 0
def cmpC (x y : Cell) : Int := if cmpZ x.kind y.kind ≠ 0 then cmpZ x.kind y.kind else if cmpZ x.n y.n ≠ 0 then cmpZ x.n y.n else cmpS x.name y.name
def cmpT : List Cell → List Cell → Int
  | [], [] => 0
  | [], _ :: _ => -1
  | _ :: _, [] => 1
  | a :: l, b :: m => if cmpC a b ≠ 0 then cmpC a b else cmpT l m
/-- The document's, which looks no further than the shorter one. -/
def cmpR : List Cell → List Cell → Int
  | [], _ => 0
  | _, [] => 0
  | a :: l, b :: m => if cmpC a b ≠ 0 then cmpC a b else cmpR l m

theorem bytes_irr : ∀ l : List UInt8, Op.bytesLess l l = false
  | [] => rfl
  | a :: l => by simp [Op.bytesLess, bytes_irr l, UInt8.lt_irrefl]
theorem bytes_asymm : ∀ {l m : List UInt8}, Op.bytesLess l m = true → Op.bytesLess m l = false
  | _, [], h => by simp [Op.bytesLess] at h
  | [], _ :: _, _ => by simp [Op.bytesLess]
  | a :: l, b :: m, h => by
    simp only [Op.bytesLess, Bool.or_eq_true, decide_eq_true_eq, Bool.and_eq_true, beq_iff_eq, Bool.or_eq_false_iff, decide_eq_false_iff_not, Bool.and_eq_false_iff, beq_eq_false_iff_ne, ne_eq] at h ⊢
    rcases h with h | ⟨rfl, h⟩
    · rw [UInt8.lt_iff_toNat_lt] at *
      exact ⟨by omega, .inl fun e => by subst e; omega⟩
    · exact ⟨UInt8.lt_irrefl _, .inr (bytes_asymm h)⟩
theorem bytes_total : ∀ {l m : List UInt8}, Op.bytesLess l m = false → Op.bytesLess m l = false → l = m
  | [], [], _, _ => rfl
  | a :: l, [], _, h => by simp [Op.bytesLess] at h
  | [], _ :: _, h, _ => by simp [Op.bytesLess] at h
  | a :: l, b :: m, h, h' => by
    simp only [Op.bytesLess, Bool.or_eq_false_iff, decide_eq_false_iff_not, Bool.and_eq_false_iff, beq_eq_false_iff_ne, ne_eq] at h h'
    have e : a = b := by
      apply UInt8.toNat_inj.1
      have h1 := h.1; have h2 := h'.1
      rw [UInt8.lt_iff_toNat_lt] at h1 h2
      omega
    subst e
    rw [bytes_total (h.2.resolve_left fun h => h rfl) (h'.2.resolve_left fun h => h rfl)]
theorem bytes_trans : ∀ {l m k : List UInt8}, Op.bytesLess l m = true → Op.bytesLess m k = true → Op.bytesLess l k = true
  | _, [], _, h, _ => by simp [Op.bytesLess] at h
  | _, _ :: _, [], _, h => by simp [Op.bytesLess] at h
  | [], _ :: _, _ :: _, _, _ => by simp [Op.bytesLess]
  | a :: l, b :: m, c :: k, h, h' => by
    simp only [Op.bytesLess, Bool.or_eq_true, decide_eq_true_eq, Bool.and_eq_true, beq_iff_eq] at h h' ⊢
    rcases h with h | ⟨rfl, h⟩
    · rcases h' with h' | ⟨rfl, h'⟩
      · exact .inl (UInt8.lt_trans h h')
      · exact .inl h
    · rcases h' with h' | ⟨rfl, h'⟩
      · exact .inl h'
      · exact .inr ⟨rfl, bytes_trans h h'⟩
theorem toList_inj {a b : ByteArray} (h : a.toList = b.toList) : a = b := by
  rw [ByteArray.toList_eq, ByteArray.toList_eq] at h
  cases a; cases b; simp only at h; rw [Array.toList_inj.1 h]

theorem cmpZ_zero {a b : Int} : cmpZ a b = 0 ↔ a = b := by unfold cmpZ; split <;> (try split) <;> omega
theorem cmpZ_neg (a b : Int) : cmpZ b a = - cmpZ a b := by unfold cmpZ; split <;> split <;> (try split) <;> omega
theorem cmpZ_lt {a b : Int} : cmpZ a b < 0 ↔ a < b := by unfold cmpZ; split <;> (try split) <;> omega
theorem cmpS_zero {a b : ByteArray} : cmpS a b = 0 ↔ a = b := by
  unfold cmpS
  split
  · rename_i h
    refine ⟨fun h => by omega, ?_⟩
    rintro rfl; rw [bytes_irr] at h; simp at h
  · split
    · rename_i h
      refine ⟨fun h => by omega, ?_⟩
      rintro rfl; rw [bytes_irr] at h; simp at h
    · rename_i h1 h2
      exact ⟨fun _ => toList_inj (bytes_total (by simpa using h1) (by simpa using h2)), fun _ => rfl⟩
theorem cmpS_neg (a b : ByteArray) : cmpS b a = - cmpS a b := by
  unfold cmpS
  cases h : Op.bytesLess a.toList b.toList
  · cases h2 : Op.bytesLess b.toList a.toList <;> simp
  · simp [bytes_asymm h]
theorem cmpS_lt {a b : ByteArray} : cmpS a b < 0 ↔ Op.bytesLess a.toList b.toList = true := by
  unfold cmpS
  split
  · simp_all
  · split <;> simp_all
theorem cmpC_zero {x y : Cell} : cmpC x y = 0 ↔ x = y := by
  have h1 := @cmpZ_zero x.kind y.kind
  have h2 := @cmpZ_zero x.n y.n
  have h3 := @cmpS_zero x.name y.name
  have e : x = y ↔ x.kind = y.kind ∧ x.name = y.name ∧ x.n = y.n := by cases x; cases y; simp
  rw [e, ← h1, ← h2, ← h3]
  unfold cmpC
  by_cases e1 : cmpZ x.kind y.kind = 0
  · by_cases e2 : cmpZ x.n y.n = 0
    · simp [e1, e2]
    · simp [e1, e2]
  · simp [e1]
theorem cmpC_neg (x y : Cell) : cmpC y x = - cmpC x y := by
  unfold cmpC
  rw [cmpZ_neg x.kind, cmpZ_neg x.n, cmpS_neg x.name]
  by_cases e1 : cmpZ x.kind y.kind = 0
  · by_cases e2 : cmpZ x.n y.n = 0
    · simp [e1, e2]
    · simp [e1, e2]
  · simp [e1]
theorem cmpC_lt {x y : Cell} : cmpC x y < 0 ↔ x.kind < y.kind ∨ (x.kind = y.kind ∧ (x.n < y.n ∨ (x.n = y.n ∧ Op.bytesLess x.name.toList y.name.toList = true))) := by
  have h1 := @cmpZ_zero x.kind y.kind
  have h2 := @cmpZ_zero x.n y.n
  rw [← cmpS_lt, ← cmpZ_lt (a := x.kind), ← cmpZ_lt (a := x.n), ← h1, ← h2]
  unfold cmpC
  by_cases e1 : cmpZ x.kind y.kind = 0
  · by_cases e2 : cmpZ x.n y.n = 0
    · simp [e1, e2]
    · simp [e1, e2]
  · simp [e1]
theorem cmpC_trans {x y z : Cell} (h : cmpC x y < 0) (h' : cmpC y z < 0) : cmpC x z < 0 := by
  rw [cmpC_lt] at *
  rcases h with h | ⟨h1, h⟩
  · rcases h' with h' | ⟨h2, h'⟩ <;> exact .inl (by omega)
  · rcases h' with h' | ⟨h2, h'⟩
    · exact .inl (by omega)
    · refine .inr ⟨by omega, ?_⟩
      rcases h with h | ⟨h3, h⟩
      · rcases h' with h' | ⟨h4, h'⟩ <;> exact .inl (by omega)
      · rcases h' with h' | ⟨h4, h'⟩
        · exact .inl (by omega)
        · exact .inr ⟨by omega, bytes_trans h h'⟩
theorem cmpT_cons (a b : Cell) (l m : List Cell) : cmpT (a :: l) (b :: m) = if cmpC a b ≠ 0 then cmpC a b else cmpT l m := rfl
theorem cmpT_zero : ∀ {l m : List Cell}, cmpT l m = 0 ↔ l = m
  | [], [] => by simp [cmpT]
  | [], _ :: _ => by simp [cmpT]
  | _ :: _, [] => by simp [cmpT]
  | a :: l, b :: m => by
    have h1 := @cmpC_zero a b
    have h2 := @cmpT_zero l m
    rw [List.cons.injEq, ← h1, ← h2, cmpT_cons]
    by_cases e : cmpC a b = 0 <;> simp [e]
theorem cmpT_neg : ∀ l m : List Cell, cmpT m l = - cmpT l m
  | [], [] => rfl
  | [], _ :: _ => rfl
  | _ :: _, [] => rfl
  | a :: l, b :: m => by
    have h2 := cmpT_neg l m
    rw [cmpT_cons, cmpT_cons, cmpC_neg a b, h2]
    by_cases e : cmpC a b = 0 <;> simp [e]
theorem cmpT_trans : ∀ {l m k : List Cell}, cmpT l m < 0 → cmpT m k < 0 → cmpT l k < 0
  | [], [], _, h, _ => by simp [cmpT] at h
  | [], _ :: _, [], _, h => by simp [cmpT] at h
  | [], _ :: _, _ :: _, _, _ => by simp [cmpT]
  | _ :: _, [], _, h, _ => by simp [cmpT] at h
  | _ :: _, _ :: _, [], _, h => by simp [cmpT] at h
  | a :: l, b :: m, c :: k, h, h' => by
    have ih := @cmpT_trans l m k
    rw [cmpT_cons] at h h' ⊢
    by_cases e1 : cmpC a b = 0
    · have := cmpC_zero.1 e1; subst this
      rw [if_neg (by simp [e1])] at h
      by_cases e2 : cmpC a c = 0
      · rw [if_neg (by simp [e2])] at h'
        rw [if_neg (by simp [e2])]
        exact ih h h'
      · rw [if_pos e2] at h' ⊢
        exact h'
    · rw [if_pos e1] at h
      by_cases e2 : cmpC b c = 0
      · have := cmpC_zero.1 e2; subst this
        rw [if_pos e1]; exact h
      · rw [if_pos e2] at h'
        have := cmpC_trans h h'
        rw [if_pos (by omega)]; exact this
/-- Where none is the beginning of the other one they are the same. -/
theorem cmpR_eq : ∀ {k : Nat} {l m : List Cell}, endC k l = some l.length → endC k m = some m.length → cmpR l m = cmpT l m
  | 0, l, m, h, h' => by
    rw [endC_zero] at h h'
    simp only [Option.some.injEq] at h h'
    rw [List.eq_nil_of_length_eq_zero h.symm, List.eq_nil_of_length_eq_zero h'.symm]; rfl
  | k + 1, [], _, h, _ => by simp [endC] at h
  | k + 1, _ :: _, [], _, h => by simp [endC] at h
  | k + 1, a :: l, b :: m, h, h' => by
    unfold cmpR cmpT
    by_cases e : cmpC a b = 0
    · rw [if_neg (by simp [e]), if_neg (by simp [e])]
      have := cmpC_zero.1 e; subst this
      rw [endC_succ] at h h'
      split at h
      · rename_i hc
        rw [if_pos hc] at h'
        obtain ⟨x, hx, ex⟩ := Option.map_eq_some_iff.1 h
        obtain ⟨y, hy, ey⟩ := Option.map_eq_some_iff.1 h'
        simp only [List.length_cons, Nat.add_right_cancel_iff] at ex ey
        subst ex ey
        exact cmpR_eq hx hy
      · simp at h
    · rw [if_pos e, if_pos e]
end Go.Proofs.YtaedgpcmkagpeaaGreat
