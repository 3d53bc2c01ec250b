/-
  Layer 16 in plain Lean: instances, the program of them, places, what is right, what an atom leans on, cut programs.
-/
import Derived.Test.YtaedgpcmkagpeaaGreatGsA
import Derived.Test.YtaedgpcmkagpeaaGreatDpA
namespace Go.Proofs.YtaedgpcmkagpeaaGreat
open Go Go.RowKit

theorem cmpT_ok : Cmp cmpT := ⟨cmpT_zero, cmpT_neg, cmpT_trans⟩
/-! ### Rows of numbers -/
def lexZ : List Int → List Int → Int
  | [], [] => 0
  | [], _ :: _ => -1
  | _ :: _, [] => 1
  | a :: l, b :: m => if cmpZ a b ≠ 0 then cmpZ a b else lexZ l m
theorem lexZ_cons (a b : Int) (l m : List Int) : lexZ (a :: l) (b :: m) = if cmpZ a b ≠ 0 then cmpZ a b else lexZ l m := rfl
theorem lexZ_zero : ∀ {l m : List Int}, lexZ l m = 0 ↔ l = m
  | [], [] => by simp [lexZ]
  | [], _ :: _ => by simp [lexZ]
  | _ :: _, [] => by simp [lexZ]
  | a :: l, b :: m => by
    have h1 := @cmpZ_zero a b
    have h2 := @lexZ_zero l m
    rw [List.cons.injEq, ← h1, ← h2, lexZ_cons]
    by_cases e : cmpZ a b = 0 <;> simp [e]
theorem lexZ_neg : ∀ l m : List Int, lexZ m l = - lexZ l m
  | [], [] => rfl
  | [], _ :: _ => rfl
  | _ :: _, [] => rfl
  | a :: l, b :: m => by
    have h2 := lexZ_neg l m
    rw [lexZ_cons, lexZ_cons, cmpZ_neg a b, h2]
    by_cases e : cmpZ a b = 0 <;> simp [e]
theorem lexZ_trans : ∀ {l m k : List Int}, lexZ l m < 0 → lexZ m k < 0 → lexZ l k < 0
  | [], [], _, h, _ => by simp [lexZ] at h
  | [], _ :: _, [], _, h => by simp [lexZ] at h
  | [], _ :: _, _ :: _, _, _ => by simp [lexZ]
  | _ :: _, [], _, h, _ => by simp [lexZ] at h
  | _ :: _, _ :: _, [], _, h => by simp [lexZ] at h
  | a :: l, b :: m, c :: k, h, h' => by
    have ih := @lexZ_trans l m k
    rw [lexZ_cons] at h h' ⊢
    by_cases e1 : cmpZ a b = 0
    · have := cmpZ_zero.1 e1; subst this
      rw [if_neg (by simp [e1])] at h
      by_cases e2 : cmpZ a c = 0
      · rw [if_neg (by simp [e2])] at h'
        rw [if_neg (by simp [e2])]
        exact ih h h'
      · rw [if_pos e2] at h' ⊢
        exact h'
    · rw [if_pos e1] at h
      by_cases e2 : cmpZ b c = 0
      · have := cmpZ_zero.1 e2; subst this
        rw [if_pos e1]; exact h
      · rw [if_pos e2] at h'
        have := cmpZ_cmp.trans h h'
        rw [if_pos (by omega)]; exact this
theorem lexZ_ok : Cmp lexZ := ⟨lexZ_zero, lexZ_neg, lexZ_trans⟩
theorem lexZ_val : ∀ l m : List Int, lexZ l m = -1 ∨ lexZ l m = 0 ∨ lexZ l m = 1
  | [], [] => by simp [lexZ]
  | [], _ :: _ => by simp [lexZ]
  | _ :: _, [] => by simp [lexZ]
  | a :: l, b :: m => by
    rw [lexZ_cons]
    split
    · unfold cmpZ; split <;> (try split) <;> simp
    · exact lexZ_val l m

/-! ### Rules -/
def cmpU (a b : Rule) : Int := if cmpZ a.head b.head ≠ 0 then cmpZ a.head b.head else if lexZ a.pos b.pos ≠ 0 then lexZ a.pos b.pos else lexZ a.neg b.neg
theorem cmpU_ok : Cmp cmpU := by
  have h1 : Cmp fun a b : List Int × List Int => if lexZ a.1 b.1 ≠ 0 then lexZ a.1 b.1 else lexZ a.2 b.2 :=
    cmp_then (α := List Int × List Int) lexZ_ok lexZ_ok (fun a => a.1) (fun a => a.2) fun {a b} e1 e2 => Prod.ext e1 e2
  exact cmp_then (α := Rule) (d := fun a b : List Int × List Int => if lexZ a.1 b.1 ≠ 0 then lexZ a.1 b.1 else lexZ a.2 b.2) cmpZ_cmp h1 (fun a => a.head) (fun a => (a.pos, a.neg)) fun {a b} e1 e2 => by
    cases a; cases b; simp at *; exact ⟨e1, e2.1, e2.2⟩

/-! ### Rows that rise -/
section
variable {α : Type} {c : α → α → Int}
def riseB (c : α → α → Int) (l : List α) : Bool := (List.range l.length).all fun k => match l[k]?, l[k + 1]? with
  | some a, some b => decide (c a b < 0)
  | _, _ => true
theorem riseB_at {l : List α} (h : riseB c l = true) {k : Nat} (hk : k + 1 < l.length) : c l[k] l[k + 1] < 0 := by
  have := List.all_eq_true.1 h k (List.mem_range.2 (by omega))
  rw [List.getElem?_eq_getElem (by omega : k < l.length), List.getElem?_eq_getElem hk] at this
  simpa using this
theorem riseB_no {l : List α} {k : Nat} (hk : k + 1 < l.length) (h : ¬ c l[k] l[k + 1] < 0) : riseB c l = false := by
  cases e : riseB c l with
  | false => rfl
  | true => exact absurd (riseB_at e hk) h
theorem riseB_yes {l : List α} (h : ∀ k (hk : k + 1 < l.length), c l[k] l[k + 1] < 0) : riseB c l = true := by
  refine List.all_eq_true.2 fun k hk => ?_
  have hk := List.mem_range.1 hk
  rw [List.getElem?_eq_getElem hk]
  by_cases h1 : k + 1 < l.length
  · rw [List.getElem?_eq_getElem h1]; simpa using h k h1
  · rw [List.getElem?_eq_none (by omega)]
theorem riseB_iff (hc : Cmp c) {l : List α} : riseB c l = true ↔ Srt c l := by
  constructor
  · intro h
    have key : ∀ (d i : Nat) (hd : i + d + 1 < l.length), c l[i] (l[i + d + 1]) < 0 := by
      intro d
      induction d with
      | zero => intro i hd; exact riseB_at h hd
      | succ d ih => intro i hd; exact hc.trans (ih i (by omega)) (riseB_at h (k := i + d + 1) (by omega))
    refine List.pairwise_iff_getElem.2 fun i j hi hj hij => ?_
    obtain ⟨d, rfl⟩ : ∃ d, j = i + d + 1 := ⟨j - i - 1, by omega⟩
    exact key d i hj
  · intro h
    exact riseB_yes fun k hk => List.pairwise_iff_getElem.1 h k (k + 1) (by omega) hk (by omega)
end
theorem srtZ_iff {l : List Int} : Srt cmpZ l ↔ l.Pairwise (· < ·) := by
  unfold Srt
  constructor <;> (intro h; exact h.imp fun {a b} h => by first | exact cmpZ_lt.1 h | exact cmpZ_lt.2 h)

/-! ### Instances, and the program of them -/
structure Ins where
  head : List Cell
  pos : List (List Cell)
  neg : List (List Cell)
def termsI (i : Ins) : List (List Cell) := i.head :: (i.pos ++ i.neg)
def allT (l : List Ins) : List (List Cell) := l.flatMap termsI
def posT (A : List (List Cell)) (t : List Cell) : Int := if t ∈ A then (A.idxOf t : Int) else -1
def placesT (A : List (List Cell)) (l : List (List Cell)) : List Int := setL cmpZ (l.map (posT A))
def ruleT (A : List (List Cell)) (i : Ins) : Rule := ⟨posT A i.head, placesT A i.pos, placesT A i.neg⟩
def fromT (l : List Ins) : Prog := ⟨setL cmpT (allT l), setL cmpU (l.map (ruleT (setL cmpT (allT l))))⟩
theorem posT_no {A : List (List Cell)} {t : List Cell} (h : t ∉ A) : posT A t = -1 := by unfold posT; rw [if_neg h]
theorem posT_yes {A : List (List Cell)} {t : List Cell} (h : t ∈ A) : posT A t = (A.idxOf t : Int) ∧ A.idxOf t < A.length := by
  unfold posT; rw [if_pos h]; exact ⟨rfl, List.idxOf_lt_length_of_mem h⟩
theorem posT_at {A : List (List Cell)} (hA : Srt cmpT A) {k : Nat} (hk : k < A.length) : posT A A[k] = (k : Int) := by
  rw [(posT_yes (List.getElem_mem hk)).1, (hA.nodup cmpT_ok).idxOf_getElem]
theorem posT_get {A : List (List Cell)} {t : List Cell} (h : 0 ≤ posT A t) : ∃ hk : (posT A t).toNat < A.length, A[(posT A t).toNat] = t := by
  by_cases ht : t ∈ A
  · obtain ⟨h1, h2⟩ := posT_yes ht
    rw [h1]
    exact ⟨by simpa using h2, by simp⟩
  · rw [posT_no ht] at h; omega
theorem posT_low {A : List (List Cell)} (hA : Srt cmpT A) {t : List Cell} (h : t ∈ A) : posT A t = (lowC cmpT t A : Int) := by
  obtain ⟨hk, he⟩ := lowC_mem cmpT_ok hA h
  have := posT_at hA hk
  rw [he] at this; exact this
theorem posT_rng (A : List (List Cell)) (t : List Cell) : -1 ≤ posT A t ∧ posT A t < A.length := by
  by_cases h : t ∈ A
  · obtain ⟨h1, h2⟩ := posT_yes h; omega
  · rw [posT_no h]; omega

/-! ### Right programs -/
def atomG (t : List Cell) : Bool := rightT t && isFun t && groundT t
def inN (n : Nat) (x : Int) : Bool := decide (0 ≤ x) && decide (x < n)
def setN (n : Nat) (l : List Int) : Bool := l.all (inN n) && riseB cmpZ l
def ruleN (n : Nat) (r : Rule) : Bool := inN n r.head && setN n r.pos && setN n r.neg
def rightG (g : Prog) : Bool := g.atoms.all atomG && riseB cmpT g.atoms && g.rules.all (ruleN g.atoms.length) && riseB cmpU g.rules
structure RightG (g : Prog) : Prop where
  atoms : ∀ t ∈ g.atoms, atomG t = true
  srt : Srt cmpT g.atoms
  head : ∀ r ∈ g.rules, 0 ≤ r.head ∧ r.head < g.atoms.length
  pos : ∀ r ∈ g.rules, (∀ x ∈ r.pos, 0 ≤ x ∧ x < g.atoms.length) ∧ Srt cmpZ r.pos
  neg : ∀ r ∈ g.rules, (∀ x ∈ r.neg, 0 ≤ x ∧ x < g.atoms.length) ∧ Srt cmpZ r.neg
  rsrt : Srt cmpU g.rules
theorem setN_iff {n : Nat} {l : List Int} : setN n l = true ↔ (∀ x ∈ l, 0 ≤ x ∧ x < n) ∧ Srt cmpZ l := by
  unfold setN inN
  rw [Bool.and_eq_true, List.all_eq_true, riseB_iff cmpZ_cmp]
  simp only [Bool.and_eq_true, decide_eq_true_eq]
theorem rightG_iff {g : Prog} : rightG g = true ↔ RightG g := by
  unfold rightG
  simp only [Bool.and_eq_true, List.all_eq_true, riseB_iff cmpT_ok, riseB_iff cmpU_ok]
  constructor
  · rintro ⟨⟨⟨h1, h2⟩, h3⟩, h4⟩
    have h5 : ∀ r ∈ g.rules, (0 ≤ r.head ∧ r.head < g.atoms.length) ∧ ((∀ x ∈ r.pos, 0 ≤ x ∧ x < g.atoms.length) ∧ Srt cmpZ r.pos) ∧ ((∀ x ∈ r.neg, 0 ≤ x ∧ x < g.atoms.length) ∧ Srt cmpZ r.neg) := fun r hr => by
      have := h3 r hr
      unfold ruleN at this
      rw [Bool.and_eq_true, Bool.and_eq_true, setN_iff, setN_iff] at this
      refine ⟨?_, this.1.2, this.2⟩
      have := this.1.1
      unfold inN at this
      simpa using this
    exact ⟨h1, h2, fun r hr => (h5 r hr).1, fun r hr => (h5 r hr).2.1, fun r hr => (h5 r hr).2.2, h4⟩
  · intro h
    refine ⟨⟨⟨h.atoms, h.srt⟩, fun r hr => ?_⟩, h.rsrt⟩
    unfold ruleN
    rw [Bool.and_eq_true, Bool.and_eq_true, setN_iff, setN_iff]
    exact ⟨⟨by unfold inN; simpa using h.head r hr, h.pos r hr⟩, h.neg r hr⟩

/-! ### The rules of an atom; what it leans on -/
def ofR (g : Prog) (a : Int) : List Int := ((List.range g.rules.length).filter fun i => match g.rules[i]? with
  | some r => decide (r.head = a)
  | none => false).map fun i : Nat => (i : Int)
def edgG (g : Prog) : List (Nat × Nat) := g.rules.flatMap fun r => (r.pos ++ r.neg).map fun k => (r.head.toNat, k.toNat)
def leadsG (g : Prog) (a : Nat) : List Nat := reachL (edgG g) g.atoms.length a
def plcN (l : List Nat) (x : Int) : Int := if x.toNat ∈ l ∧ 0 ≤ x then (l.idxOf x.toNat : Int) else -1
def inLN (l : List Nat) (x : Int) : Bool := decide (x.toNat ∈ l ∧ 0 ≤ x)
def onlyR (l : List Nat) (r : Rule) : Rule := ⟨plcN l r.head, r.pos.map (plcN l), r.neg.map (plcN l)⟩
def onlyG (g : Prog) (l : List Nat) : Prog := ⟨l.map fun k => g.atoms[k]?.getD [], (g.rules.filter fun r => inLN l r.head).map (onlyR l)⟩
def cutG (g : Prog) (a : Int) : Prog := if 0 ≤ a ∧ a < g.atoms.length then onlyG g (leadsG g a.toNat) else ⟨[], []⟩
def instG (g : Prog) (r : Rule) : Ins := ⟨g.atoms[r.head.toNat]?.getD [], r.pos.map fun k => g.atoms[k.toNat]?.getD [], r.neg.map fun k => g.atoms[k.toNat]?.getD []⟩
theorem ofR_snoc (l : List Rule) (A : List (List Cell)) (a : Int) (k : Nat) (hk : k < l.length) : ofR ⟨A, l.take (k + 1)⟩ a = ofR ⟨A, l.take k⟩ a ++ (if l[k].head = a then [(k : Int)] else []) := by
  unfold ofR
  have h1 : (l.take (k + 1)).length = k + 1 := by rw [List.length_take]; omega
  have h2 : (l.take k).length = k := by rw [List.length_take]; omega
  simp only [h1, h2]
  rw [List.range_succ, List.filter_append, List.map_append]
  congr 1
  · congr 1
    refine List.filter_congr fun i hi => ?_
    have hi := List.mem_range.1 hi
    rw [List.getElem?_take_of_lt (by omega), List.getElem?_take_of_lt hi]
  · rw [List.filter_cons, List.filter_nil, List.getElem?_take_of_lt (by omega), List.getElem?_eq_getElem hk]
    by_cases h : l[k].head = a <;> simp [h]
theorem ofR_len (g : Prog) (a : Int) : (ofR g a).length ≤ g.rules.length := by
  unfold ofR
  rw [List.length_map]
  have := List.length_filter_le (fun i => match g.rules[i]? with | some r => decide (r.head = a) | none => false) (List.range g.rules.length)
  simpa using this
theorem mem_ofR {g : Prog} {a x : Int} : x ∈ ofR g a ↔ 0 ≤ x ∧ ∃ h : x.toNat < g.rules.length, g.rules[x.toNat].head = a := by
  unfold ofR
  rw [List.mem_map]
  constructor
  · rintro ⟨i, hi, rfl⟩
    obtain ⟨h1, h2⟩ := List.mem_filter.1 hi
    have h1 := List.mem_range.1 h1
    rw [List.getElem?_eq_getElem h1] at h2
    exact ⟨by omega, by simpa using h1, by simpa using h2⟩
  · rintro ⟨h0, h1, h2⟩
    refine ⟨x.toNat, List.mem_filter.2 ⟨List.mem_range.2 h1, ?_⟩, by omega⟩
    rw [List.getElem?_eq_getElem h1]
    simpa using h2
theorem ofR_rise (g : Prog) (a : Int) : (ofR g a).Pairwise (· < ·) := by
  unfold ofR
  rw [List.pairwise_map]
  exact (List.Pairwise.filter _ List.pairwise_lt_range).imp fun h => by omega
end Go.Proofs.YtaedgpcmkagpeaaGreat
