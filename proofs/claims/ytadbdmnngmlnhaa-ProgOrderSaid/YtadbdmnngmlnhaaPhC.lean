/-
  Compacting in place, in plain Lean; an element of a row of one's own written in place.
  Layer 7, the program: slices.Compact at predicates.
  Layer 7, the program: slices.Compact at links.
-/
import Derived.Test.YtadbdmnngmlnhaaPgC
import Derived.Test.YtadbdmnngmlnhaaFlatE
import Derived.Test.YtadbdmnngmlnhaaPgI
namespace Go.Proofs.Ytadbdmnngmlnhaa
section
open Go Go.RowKit

section
variable {α : Type} [DecidableEq α]
theorem cptL_cons {x y : α} {l : List α} : cptL (x :: y :: l) = if x = y then cptL (y :: l) else x :: cptL (y :: l) := rfl
theorem cptL_snoc2 (a b : α) : ∀ m : List α, cptL (m ++ [a, b]) = if a = b then cptL (m ++ [a]) else cptL (m ++ [a]) ++ [b]
  | [] => by
    show cptL [a, b] = _
    rw [cptL_cons]
    split
    · rename_i h; subst h; rfl
    · rfl
  | [x] => by
    show cptL (x :: a :: [b]) = if a = b then cptL (x :: a :: []) else cptL (x :: a :: []) ++ [b]
    by_cases h1 : x = a
    · subst h1
      rw [cptL_cons, if_pos rfl, cptL_cons, cptL_cons, if_pos rfl]
      by_cases h2 : x = b
      · subst h2; rw [if_pos rfl, if_pos rfl]
      · rw [if_neg h2, if_neg h2]; rfl
    · rw [cptL_cons, if_neg h1, cptL_cons, cptL_cons, if_neg h1]
      by_cases h2 : a = b
      · subst h2; rw [if_pos rfl, if_pos rfl]
      · rw [if_neg h2, if_neg h2]; rfl
  | x :: y :: m => by
    have h := cptL_snoc2 a b (y :: m)
    rw [List.cons_append, List.cons_append] at h
    show cptL (x :: y :: (m ++ [a, b])) = if a = b then cptL (x :: y :: (m ++ [a])) else cptL (x :: y :: (m ++ [a])) ++ [b]
    rw [cptL_cons, cptL_cons, h]
    by_cases h1 : x = y
    · rw [if_pos h1, if_pos h1]
    · rw [if_neg h1, if_neg h1]
      by_cases h2 : a = b
      · rw [if_pos h2, if_pos h2]
      · rw [if_neg h2, if_neg h2]; rfl
omit [DecidableEq α] in
theorem take_two {l : List α} {k : Nat} (hk : k + 1 < l.length) : l.take (k + 2) = l.take k ++ [l[k], l[k + 1]] := by
  rw [List.take_succ_eq_append_getElem hk, List.take_succ_eq_append_getElem (show k < l.length by omega), List.append_assoc]; rfl
theorem cptL_take {l : List α} {k : Nat} (hk : k + 1 < l.length) : cptL (l.take (k + 2)) = if l[k] = l[k + 1] then cptL (l.take (k + 1)) else cptL (l.take (k + 1)) ++ [l[k + 1]] := by
  rw [take_two hk, cptL_snoc2, ← List.take_succ_eq_append_getElem (show k < l.length by omega)]
theorem cptL_len : ∀ l : List α, (cptL l).length ≤ l.length
  | [] => Nat.le_refl _
  | [a] => Nat.le_refl _
  | a :: b :: l => by
    have h := cptL_len (b :: l)
    rw [cptL_cons]
    split
    · rw [List.length_cons]; omega
    · rw [List.length_cons]
      show _ ≤ (b :: l).length + 1
      omega
/-- The row when k have been read. -/
def cpC (l : List α) (k : Nat) : List α := cptL (l.take k) ++ l.drop (cptL (l.take k)).length
/-- How many are written. -/
def cpN (l : List α) (k : Nat) : Nat := (cptL (l.take k)).length
theorem cpN_le (l : List α) (k : Nat) : cpN l k ≤ k ∧ cpN l k ≤ l.length := by
  have h := cptL_len (l.take k)
  rw [List.length_take] at h
  unfold cpN
  omega
theorem cpC_len (l : List α) (k : Nat) : (cpC l k).length = l.length := by
  have h := (cpN_le l k).2
  unfold cpN at h
  unfold cpC
  rw [List.length_append, List.length_drop]; omega
theorem cpC_get {l : List α} {k j : Nat} (hj : j < l.length) (hN : cpN l k ≤ j) : (cpC l k)[j]'(by rw [cpC_len]; exact hj) = l[j] := by
  unfold cpC
  unfold cpN at hN
  rw [List.getElem_append_right hN, List.getElem_drop]
  congr 1; omega
theorem cpC_low {l : List α} {k : Nat} (h : cptL (l.take k) = l.take k) : cpC l k = l := by
  unfold cpC
  rw [h]
  by_cases hk : k ≤ l.length
  · rw [List.length_take, Nat.min_eq_left hk, List.take_append_drop]
  · rw [List.take_of_length_le (by omega)]; simp
theorem cpN_low {l : List α} {k : Nat} (h : cptL (l.take k) = l.take k) (hk : k ≤ l.length) : cpN l k = k := by
  unfold cpN; rw [h, List.length_take]; omega
theorem cp_same {l : List α} {k : Nat} (hk : k + 1 < l.length) (h : l[k] = l[k + 1]) : cpC l (k + 2) = cpC l (k + 1) ∧ cpN l (k + 2) = cpN l (k + 1) := by
  unfold cpC cpN
  rw [cptL_take hk, if_pos h]
  exact ⟨rfl, rfl⟩
theorem cp_new {l : List α} {k : Nat} (hk : k + 1 < l.length) (h : l[k] ≠ l[k + 1]) : cpC l (k + 2) = (cpC l (k + 1)).set (cpN l (k + 1)) l[k + 1] ∧ cpN l (k + 2) = cpN l (k + 1) + 1 := by
  have hN := (cpN_le l (k + 1)).1
  unfold cpC
  unfold cpN at *
  rw [cptL_take hk, if_neg h, List.length_append, List.length_singleton]
  refine ⟨?_, rfl⟩
  rw [List.set_append_right _ _ (Nat.le_refl _), Nat.sub_self, List.append_assoc]
  congr 1
  rw [List.drop_eq_getElem_cons (show (cptL (l.take (k + 1))).length < l.length by omega), List.set_cons_zero]
  rfl
theorem cp_end (l : List α) : (cpC l l.length).take (cpN l l.length) = cptL l := by
  unfold cpC cpN
  rw [List.take_of_length_le (Nat.le_refl _), List.take_left]
theorem cp_one {l : List α} (h : l.length < 2) : cptL l = l := by
  match l, h with
  | [], _ => rfl
  | [a], _ => rfl
theorem cp_next {l : List α} {k : Nat} (hk : k + 1 < l.length) (h : cptL (l.take (k + 1)) = l.take (k + 1)) (hne : l[k] ≠ l[k + 1]) : cptL (l.take (k + 2)) = l.take (k + 2) := by
  rw [cptL_take hk, if_neg hne, h, ← List.take_succ_eq_append_getElem hk]
end

/-! ### An element written in place -/
theorem splice_get {α : Type} (L cs : List α) (o i : Nat) (h : o + cs.length ≤ L.length) : (splice L o cs)[i]? = if i < o then L[i]? else if i < o + cs.length then cs[i - o]? else L[i]? := by
  unfold splice
  have hl : (L.take o).length = o := by rw [List.length_take]; omega
  by_cases h1 : i < o
  · rw [if_pos h1, List.getElem?_append_left (by omega), List.getElem?_take_of_lt h1]
  · rw [if_neg h1, List.getElem?_append_right (by omega), hl]
    by_cases h2 : i < o + cs.length
    · rw [if_pos h2, List.getElem?_append_left (by omega)]
    · rw [if_neg h2, List.getElem?_append_right (by omega), List.getElem?_drop]
      congr 1; omega
theorem FlatE.set {α : Type} {E : Elt α} {S : Nat → Prop} {w : World} {vs : List Value} {l : List α} (h : FlatE E S w vs l) {k : Nat} (hk : k < l.length) {y : α} {cs : List Value} (hy : E.R S w y cs) : FlatE E S w (splice vs (k * E.sz) cs) (l.set k y) := by
  have hcs := E.len hy
  have hfit : k * E.sz + cs.length ≤ vs.length := by
    rw [hcs, h.1, ← Nat.succ_mul]
    exact Nat.mul_le_mul_right _ hk
  refine ⟨by rw [splice_len _ _ _ hfit, List.length_set]; exact h.1, fun m x hx => ?_⟩
  by_cases hkm : k = m
  · subst hkm
    rw [List.getElem?_set_self hk] at hx
    simp only [Option.some.injEq] at hx
    subst hx
    refine ⟨cs, hy, fun j hj => ?_⟩
    rw [splice_get _ _ _ _ hfit, if_neg (by omega), if_pos (by omega)]
    congr 1; omega
  · rw [List.getElem?_set_ne hkm] at hx
    obtain ⟨c, h4, h5⟩ := h.2 m x hx
    refine ⟨c, h4, fun j hj => ?_⟩
    rw [splice_get _ _ _ _ hfit, ← h5 j hj]
    rcases Nat.lt_or_gt_of_ne hkm with h6 | h6
    · have := Nat.mul_le_mul_right E.sz (show k + 1 ≤ m from h6)
      rw [Nat.succ_mul] at this
      rw [if_neg (by omega), if_neg (by omega)]
    · have := Nat.mul_le_mul_right E.sz (show m + 1 ≤ k from h6)
      rw [Nat.succ_mul] at this
      rw [if_pos (by omega)]
theorem splice_takeA {α : Type} (L cs : List α) (o m : Nat) (h : o + cs.length ≤ m) (hm : m ≤ L.length) : (splice L o cs).take m = splice (L.take m) o cs := by
  refine List.ext_getElem? fun i => ?_
  rw [splice_get (L.take m) cs o i (by rw [List.length_take]; omega)]
  by_cases hi : i < m
  · rw [List.getElem?_take_of_lt hi, splice_get _ _ _ _ (by omega), List.getElem?_take_of_lt hi]
  · rw [List.getElem?_eq_none (by rw [List.length_take]; omega), if_neg (by omega), if_neg (by omega), List.getElem?_eq_none (by rw [List.length_take]; omega)]
/-- An element of a row of one's own written in place. -/
theorem Own.setE {α : Type} {E : Elt α} {S : Nat → Prop} {base : Nat} {e : TypeId} {w : World} {g cap n : Nat} {l : List α} (h : Own E S base e w (.slice (some ⟨g, 0, none⟩) n cap) l) (hn : n = l.length) {k : Nat} (hk : k < l.length) {y : α} {cs : List Value} (hy : E.R (fun b => S b ∧ b ≠ g) w y cs) :
    Own E S base e (w.setCells g (k * E.sz) cs) (.slice (some ⟨g, 0, none⟩) n cap) (l.set k y) := by
  subst hn
  obtain ⟨g', cap', cur, he, h1, h2, h3, h4, h5, h6⟩ := h.flatE (by rintro rfl; simp at hk)
  simp only [Value.slice.injEq, Option.some.injEq, Addr.mk.injEq, true_and, and_true] at he
  obtain ⟨rfl, rfl⟩ := he
  have hcs := E.len hy
  have h7 := Nat.mul_le_mul_right E.sz (show k + 1 ≤ l.length from hk)
  rw [Nat.succ_mul] at h7
  have h8 := Nat.mul_le_mul_right E.sz h2
  have h9 := Row.setCells (o := k * E.sz) (vs := cs) h5 (by omega)
  refine FlatE.own h9 (by rw [List.length_set]) ?_ h1 (by rw [splice_len _ _ _ (by omega)]; exact h4) h2 h3
  rw [splice_takeA _ _ _ _ (by omega) (by omega)]
  exact (h6.set hk hy).mono (fun _ h _ => h) fun b hb hlt => (grown_setCells g cs (k * E.sz) w).block b hlt (fun e => hb.2 (by simpa using e))
theorem Own.getP {S : Nat → Prop} {base : Nat} {e : TypeId} {w : World} {v : Value} {xs : List Prd} (h : Own prdE S base e w v xs) (hne : xs ≠ []) :
    ∃ g cap, v = .slice (some ⟨g, 0, none⟩) xs.length cap ∧ base ≤ g ∧ g < w.heap.size ∧ xs.length ≤ cap ∧ cap ≤ maxLen ∧ (∀ j (hj : j < xs.length), w.cell? ⟨g, j * 2, none⟩ = some (.string xs[j].name) ∧ w.cell? ⟨g, j * 2 + 1, none⟩ = some (.int .i64 xs[j].n) ∧ xs[j].name.size ≤ 140737488355328 ∧ IntOK xs[j].n) ∧ ∀ j, w.frozen? ⟨g, j, none⟩ = false := by
  obtain ⟨g, cap, cur, rfl, h1, h2, h3, h4, h5, h6⟩ := h.flatE hne
  have h4' : cur.length = cap * 2 := h4
  refine ⟨g, cap, rfl, h1, h5.lt, h2, h3, fun j hj => ?_, h5.frozen⟩
  obtain ⟨cs, ⟨rfl, g1, g2⟩, g3⟩ := h6.2 j _ (List.getElem?_eq_getElem hj)
  have e0 := g3 0 (by decide)
  have e1 := g3 1 (by decide)
  rw [List.getElem?_take_of_lt (by show j * 2 + 0 < xs.length * 2; omega)] at e0
  rw [List.getElem?_take_of_lt (by show j * 2 + 1 < xs.length * 2; omega)] at e1
  refine ⟨?_, ?_, g1, g2⟩
  · rw [h5.cell (by omega)]
    have : cur[j * 2]? = some (.string xs[j].name) := e0
    rw [List.getElem?_eq_getElem (by omega)] at this; exact this
  · rw [h5.cell (by omega)]
    have : cur[j * 2 + 1]? = some (.int .i64 xs[j].n) := e1
    rw [List.getElem?_eq_getElem (by omega)] at this; exact this
theorem Own.getK {S : Nat → Prop} {base : Nat} {e : TypeId} {w : World} {v : Value} {xs : List Lnk} (h : Own lnkE S base e w v xs) (hne : xs ≠ []) :
    ∃ g cap, v = .slice (some ⟨g, 0, none⟩) xs.length cap ∧ base ≤ g ∧ g < w.heap.size ∧ xs.length ≤ cap ∧ cap ≤ maxLen ∧ (∀ j (hj : j < xs.length), w.cell? ⟨g, j * 3, none⟩ = some (.int .i64 xs[j].fr) ∧ w.cell? ⟨g, j * 3 + 1, none⟩ = some (.int .i64 xs[j].2) ∧ w.cell? ⟨g, j * 3 + 2, none⟩ = some (.bool xs[j].neg) ∧ xs[j].fr ≤ 1000000 ∧ xs[j].2 ≤ 1000000) ∧ ∀ j, w.frozen? ⟨g, j, none⟩ = false := by
  obtain ⟨g, cap, cur, rfl, h1, h2, h3, h4, h5, h6⟩ := h.flatE hne
  have h4' : cur.length = cap * 3 := h4
  refine ⟨g, cap, rfl, h1, h5.lt, h2, h3, fun j hj => ?_, h5.frozen⟩
  obtain ⟨cs, ⟨rfl, g1, g2⟩, g3⟩ := h6.2 j _ (List.getElem?_eq_getElem hj)
  have e0 := g3 0 (by decide)
  have e1 := g3 1 (by decide)
  have e2 := g3 2 (by decide)
  rw [List.getElem?_take_of_lt (by show j * 3 + 0 < xs.length * 3; omega)] at e0
  rw [List.getElem?_take_of_lt (by show j * 3 + 1 < xs.length * 3; omega)] at e1
  rw [List.getElem?_take_of_lt (by show j * 3 + 2 < xs.length * 3; omega)] at e2
  refine ⟨?_, ?_, ?_, g1, g2⟩
  · rw [h5.cell (by omega)]
    have : cur[j * 3]? = some (.int .i64 xs[j].fr) := e0
    rw [List.getElem?_eq_getElem (by omega)] at this; exact this
  · rw [h5.cell (by omega)]
    have : cur[j * 3 + 1]? = some (.int .i64 xs[j].2) := e1
    rw [List.getElem?_eq_getElem (by omega)] at this; exact this
  · rw [h5.cell (by omega)]
    have : cur[j * 3 + 2]? = some (.bool xs[j].neg) := e2
    rw [List.getElem?_eq_getElem (by omega)] at this; exact this
end
section
open Go Go.RowKit

/-- A row of one's own that lies in a block. -/
def OwnP (S : Nat → Prop) (base : Nat) (w : World) (g n cap : Nat) (l : List Prd) : Prop := Own prdE S base 24 w (.slice (some ⟨g, 0, none⟩) n cap) l
theorem OwnP.cells {S : Nat → Prop} {base : Nat} {w : World} {g n cap : Nat} {l : List Prd} (h : OwnP S base w g n cap l) {j : Nat} (hj : j < l.length) :
    w.cell? ⟨g, j * 2, none⟩ = some (.string l[j].name) ∧ w.cell? ⟨g, j * 2 + 1, none⟩ = some (.int .i64 l[j].n) ∧ l[j].name.size ≤ 140737488355328 ∧ IntOK l[j].n := by
  obtain ⟨g', cap', he, -, -, -, -, h1, -⟩ := Own.getP h (by rintro rfl; simp at hj)
  simp only [Value.slice.injEq, Option.some.injEq, Addr.mk.injEq, and_true] at he
  obtain ⟨rfl, -⟩ := he
  exact h1 j hj
theorem OwnP.frozen {S : Nat → Prop} {base : Nat} {w : World} {g n cap : Nat} {l : List Prd} (h : OwnP S base w g n cap l) (hl : l ≠ []) (j : Nat) : w.frozen? ⟨g, j, none⟩ = false := by
  obtain ⟨g', cap', he, -, -, -, -, -, h1⟩ := Own.getP h hl
  simp only [Value.slice.injEq, Option.some.injEq, Addr.mk.injEq, and_true] at he
  obtain ⟨rfl, -⟩ := he
  exact h1 j
theorem OwnP.set {S : Nat → Prop} {base : Nat} {w : World} {g n cap : Nat} {l : List Prd} (h : OwnP S base w g n cap l) (hn : n = l.length) {k : Nat} (hk : k < l.length) {y : Prd} (h1 : y.name.size ≤ 140737488355328) (h2 : IntOK y.n) :
    OwnP S base ((w.setCell ⟨g, k * 2, none⟩ (.string y.name)).setCell ⟨g, k * 2 + 1, none⟩ (.int .i64 y.n)) g n cap (l.set k y) :=
  Own.setE (E := prdE) (cs := [.string y.name, .int .i64 y.n]) h hn hk ⟨rfl, h1, h2⟩
theorem OwnP.to {S : Nat → Prop} {base : Nat} {w w' : World} {g n cap : Nat} {l : List Prd} (h : OwnP S base w g n cap l) (hw : Below w.heap.size w w') : OwnP S base w' g n cap l := Own.move h hw
theorem zeroP (w : World) : (zeroValue 24).run Try.prog w = .ok (.agg #[.string ⟨#[]⟩, .int .i64 0]) w := by kernel_rfl
theorem below_store {base g o : Nat} {w0 w : World} (h : Below base w0 w) (hg : base ≤ g) (hw0 : base ≤ w0.heap.size) (v : Value) : Below base w0 (w.setCell ⟨g, o, none⟩ v) :=
  h.trans (grown_below (grown_setCell w g o v) hg (Nat.le_trans hw0 h.size))
theorem below_stores {base g o : Nat} {w0 w : World} (h : Below base w0 w) (hg : base ≤ g) (hw0 : base ≤ w0.heap.size) (vs : List Value) : Below base w0 (w.setCells g o vs) :=
  h.trans (grown_below (grown_setCells g vs o w) hg (Nat.le_trans hw0 h.size))
/-- Cleared from a place on, the row ahead of it is as it was. -/
theorem own_clear {α : Type} {E : Elt α} {S : Nat → Prop} {base : Nat} {e : TypeId} {w : World} {g cap n i : Nat} {l : List α} (h : Own E S base e w (.slice (some ⟨g, 0, none⟩) n cap) l) (hn : n = l.length) (hi : i < l.length) {cs : List Value} (hcs : cs.length = (n - i) * E.sz) :
    Own E S base e (w.setCells g (i * E.sz) cs) (.slice (some ⟨g, 0, none⟩) i cap) (l.take i) := by
  subst hn
  obtain ⟨g', cap', cur, he, h1, h2, h3, h4, h5, h6⟩ := h.flatE (by rintro rfl; simp at hi)
  simp only [Value.slice.injEq, Option.some.injEq, Addr.mk.injEq, true_and, and_true] at he
  obtain ⟨rfl, rfl⟩ := he
  have e1 : i * E.sz + cs.length = l.length * E.sz := by rw [hcs, ← Nat.add_mul]; congr 1; omega
  have h8 := Nat.mul_le_mul_right E.sz h2
  have h9 := Row.setCells (o := i * E.sz) (vs := cs) h5 (by omega)
  refine FlatE.own h9 (by rw [List.length_take]; omega) ?_ h1 (by rw [splice_len _ _ _ (by omega)]; exact h4) (by omega) h3
  rw [splice_take _ _ _ (by omega)]
  have h10 := h6.take i (by omega)
  rw [List.take_take, Nat.min_eq_left (by omega)] at h10
  exact h10.mono (fun _ h _ => h) fun b hb hlt => (grown_setCells g cs (i * E.sz) w).block b hlt (fun e => hb.2 (by simpa using e))
set_option maxHeartbeats 6400000 in
set_option maxRecDepth 100000 in
theorem compactP_spec {S : Nat → Prop} {base : Nat} {w : World} {v : Value} {l : List Prd} (hl : Own prdE S base 24 w v l) (hbase : base ≤ w.heap.size) (hlen : l.length ≤ 1000000) :
    Calls Try.prog 52 #[v] w fun e w' => ∃ r, e = .returned r ∧ Below base w w' ∧ Own prdE S base 24 w' r (cptL l) := by
  by_cases h2 : l.length < 2
  · have HL := Lib.hid hl
    obtain ⟨ao, cap, rfl, -, -⟩ := hl.shape
    have He := Lib.hid (cp_one h2)
    clear hl
    go_enter Try.func52, Try.ntmps52
    go_wp2_with fail
    go_ret
    exact ⟨_, rfl, Below.refl _ _, by rw [He.out]; exact HL.out⟩
  · obtain ⟨g, cap, rfl, hg, hgl, hc1, hc2, -, -⟩ := hl.getP (by rintro rfl; simp at h2)
    have HL := Lib.hid (show OwnP S base w g l.length cap l from hl)
    have hne := Lib.hid (show l ≠ [] by rintro rfl; simp at h2)
    obtain ⟨n, hn⟩ : ∃ n, n = l.length := ⟨_, rfl⟩
    rw [← hn] at h2 hlen hc1
    rw [← hn]
    have HN := Lib.hid hn
    rw [← hn] at HL
    have Hbase := Lib.hid (show base ≤ w.heap.size ∧ base ≤ g from ⟨hbase, hg⟩)
    have h2' : ((n : Int) < 2) = False := by simp; omega
    clear hl hn hbase hg hgl
    go_enter Try.func52, Try.ntmps52
    go_wp2_with fail
    clear h2'
    go_loopw [3] (fun i wr => ∃ k : Nat, 1 ≤ k ∧ k ≤ n ∧ i = .int .i64 k ∧ Hid (cptL (l.take k) = l.take k) ∧ Hid (Below base w wr) ∧ Hid (OwnP S base wr g n cap l)) (fun i _ => n - (intOf i).toNat)
    case atStart => exact ⟨1, Nat.le_refl _, by omega, rfl, Lib.hid (cp_one (by rw [List.length_take]; omega)), Lib.hid (Below.refl _ _), HL⟩
    case round =>
      obtain ⟨k, hk1, hk, rfl, hcp, hb, ho⟩ := hrel
      clear HL
      by_cases hlt : k < n
      · obtain ⟨j, rfl⟩ : ∃ j, k = j + 1 := ⟨k - 1, by omega⟩
        obtain ⟨a0, a1, -, -⟩ := ho.out.cells (show j < l.length by have := HN.out; omega)
        obtain ⟨b0, b1, g0, g1⟩ := ho.out.cells (show j + 1 < l.length by have := HN.out; omega)
        obtain ⟨x, hx⟩ : ∃ x, x = l[j]'(by have := HN.out; omega) := ⟨_, rfl⟩
        obtain ⟨y, hy⟩ : ∃ y, y = l[j + 1]'(by have := HN.out; omega) := ⟨_, rfl⟩
        rw [← hx] at a0 a1
        rw [← hy] at b0 b1 g0 g1
        have HX := Lib.hid hx
        have HY := Lib.hid hy
        clear hx hy
        have hkl : ((j + 1 : Nat) : Int) < (n : Int) := by omega
        have hk0 : (0 : Int) ≤ ((j + 1 : Nat) : Int) := by omega
        have hj0 : ((j + 1 : Nat) : Int) - 1 = (j : Int) := by omega
        have hjn : (j : Int) < (n : Int) := by omega
        have hcj : ¬ cap = j + 1 := by omega
        by_cases hxy : y = x
        · have e1 : (y.name.toList == x.name.toList) = true := by rw [hxy]; simp
          have e2 : (y.n == x.n) = true := by rw [hxy]; simp
          have HE := Lib.hid hxy
          clear hxy
          have hcp1 := Lib.hid (show cpN l (j + 2) = j + 1 ∧ cpC l (j + 2) = l from by
            have hjl : j + 1 < l.length := by have := HN.out; omega
            obtain ⟨q1, q2⟩ := cp_same hjl (show l[j] = l[j + 1] by rw [← HX.out, ← HY.out, HE.out])
            exact ⟨by rw [q2, cpN_low hcp.out (by omega)], by rw [q1, cpC_low hcp.out]⟩)
          clear a0 a1 b0 b1 g0 g1
          obtain ⟨a0, a1, -, -⟩ := ho.out.cells (show j < l.length by have := HN.out; omega)
          obtain ⟨b0, b1, -, -⟩ := ho.out.cells (show j + 1 < l.length by have := HN.out; omega)
          rw [← HX.out] at a0 a1
          rw [← HY.out] at b0 b1
          go_upto_region 6 with fail
          go_quiet (fail)
          go_wp2_with fail
          have hb2 := Lib.hid (below_drewN hb.out nq)
          have ho2 := Lib.hid (ho.out.to (below_drewN (Below.refl _ _) nq))
          clear hb ho a0 a1 b0 b1
          go_loopw [3, 5] (fun i q wr => ∃ i' k2 : Nat, i = .int .i64 i' ∧ q = .int .i64 k2 ∧ 1 ≤ k2 ∧ j + 1 + k2 ≤ n ∧ i' ≤ j + k2 ∧ Hid (i' = cpN l (j + 1 + k2)) ∧ Hid (Below base w wr) ∧ Hid (OwnP S base wr g n cap (cpC l (j + 1 + k2)))) (fun _ q _ => n - (j + 1 + (intOf q).toNat))
          case atStart => exact ⟨j + 1, 1, by go_num, by go_num, Nat.le_refl _, by omega, by omega, Lib.hid hcp1.out.1.symm, hb2, Lib.hid (by rw [hcp1.out.2]; exact ho2.out)⟩
          case round =>
            obtain ⟨i, k2, rfl, rfl, h21, h2n, hi2, hiN, hbw, how⟩ := hrel
            clear hb2 ho2 hcp1 e1 e2 hcp hkl hk0 hj0 hjn
            have HCL := Lib.hid (cpC_len l (j + 1 + k2))
            have hi0 : (0 : Int) ≤ (i : Int) := by omega
            have hk2 : (0 : Int) ≤ (k2 : Int) := by omega
            by_cases hlt2 : j + 1 + k2 < n
            · obtain ⟨m, rfl⟩ : ∃ m, k2 = m + 1 := ⟨k2 - 1, by omega⟩
              have hjl : j + 1 + (m + 1) < l.length := by have := HN.out; omega
              obtain ⟨p0, p1, -, -⟩ := how.out.cells (show j + 1 + m < _ by rw [HCL.out]; omega)
              obtain ⟨r0, r1, t0, t1⟩ := how.out.cells (show j + 1 + (m + 1) < _ by rw [HCL.out]; omega)
              rw [cpC_get (show j + 1 + m < l.length by omega) (by have := hiN.out; omega)] at p0 p1
              rw [cpC_get hjl (by have := hiN.out; omega)] at r0 r1 t0 t1
              obtain ⟨x2, hx2⟩ : ∃ x, x = l[j + 1 + m]'(by omega) := ⟨_, rfl⟩
              obtain ⟨y2, hy2⟩ : ∃ y, y = l[j + 1 + (m + 1)] := ⟨_, rfl⟩
              rw [← hx2] at p0 p1
              rw [← hy2] at r0 r1 t0 t1
              rw [show (j + 1 + m) * 2 = (j + 1) * 2 + m * 2 by omega] at p0 p1
              rw [show (j + 1 + (m + 1)) * 2 = (j + 1) * 2 + (m + 1) * 2 by omega] at r0 r1
              have HX2 := Lib.hid hx2
              have HY2 := Lib.hid hy2
              have Hjl := Lib.hid hjl
              clear hx2 hy2
              have hm1 : ((m + 1 : Nat) : Int) - 1 = (m : Int) := by omega
              have hmn : (m : Int) < ((n - (j + 1) : Nat) : Int) := by omega
              have hmn1 : ((m + 1 : Nat) : Int) < ((n - (j + 1) : Nat) : Int) := by omega
              by_cases hxy2 : y2 = x2
              · have e1 : (y2.name.toList == x2.name.toList) = true := by rw [hxy2]; simp
                have e2 : (y2.n == x2.n) = true := by rw [hxy2]; simp
                have HE2 := Lib.hid hxy2
                clear hxy2
                go_upto_region 11 with fail
                go_quiet (fail)
                go_wp2_with fail
                go_roundw
                case rel =>
                  obtain ⟨q1, q2⟩ := cp_same (l := l) (k := j + 1 + m) Hjl.out (by rw [← HX2.out, ← HE2.out, HY2.out]; rfl)
                  exact ⟨i, m + 2, rfl, by go_num, by omega, by omega, by omega, Lib.hid (by rw [hiN.out]; exact q2.symm), Lib.hid (below_drewN hbw.out nq), Lib.hid (by rw [show j + 1 + (m + 2) = j + 1 + m + 2 by omega, q1]; exact how.out.to (below_drewN (Below.refl _ _) nq))⟩
                case measure => simp [intOf]; omega
              · have HE2 := Lib.hid hxy2
                have hiw : i < (cpC l (j + 1 + (m + 1))).length := by rw [HCL.out, ← HN.out]; omega
                obtain ⟨o0, o1, -, -⟩ := how.out.cells hiw
                have hwe : cpC l (j + 1 + (m + 1)) ≠ [] := by intro h; rw [h] at hiw; simp at hiw
                have f0 := how.out.frozen hwe (i * 2)
                have f1 := how.out.frozen hwe (i * 2 + 1)
                generalize (cpC l (j + 1 + (m + 1)))[i] = z at o0 o1
                have hin : (i : Int) < (n : Int) := by omega
                clear hwe hiw
                rcases prd_ne hxy2 with e1 | ⟨e1, e2⟩
                · clear hxy2
                  go_upto_region 11 with fail
                  go_quiet (fail)
                  go_wp2_with fail
                  go_roundw
                  case rel =>
                    obtain ⟨q1, q2⟩ := cp_new (l := l) (k := j + 1 + m) Hjl.out (fun h => HE2.out (by rw [HX2.out, HY2.out]; exact h.symm))
                    have hset := OwnP.set (how.out.to (below_drewN (Below.refl _ _) nq)) (by rw [HCL.out]; exact HN.out) (k := i) (by rw [HCL.out, ← HN.out]; omega) t0 t1
                    refine ⟨i + 1, m + 2, by go_num, by go_num, by omega, by omega, by omega, Lib.hid (by rw [hiN.out]; exact q2.symm), Lib.hid (below_store (below_store (below_drewN hbw.out nq) Hbase.out.2 Hbase.out.1 _) Hbase.out.2 Hbase.out.1 _), Lib.hid ?_⟩
                    rw [show j + 1 + (m + 2) = j + 1 + m + 2 by omega, q1, show l[j + 1 + m + 1]'Hjl.out = y2 from HY2.out.symm]
                    rw [hiN.out] at hset ⊢
                    exact hset
                  case measure => simp [intOf]; omega
                · clear hxy2
                  go_upto_region 11 with fail
                  go_quiet (fail)
                  go_wp2_with fail
                  go_roundw
                  case rel =>
                    obtain ⟨q1, q2⟩ := cp_new (l := l) (k := j + 1 + m) Hjl.out (fun h => HE2.out (by rw [HX2.out, HY2.out]; exact h.symm))
                    have hset := OwnP.set (how.out.to (below_drewN (Below.refl _ _) nq)) (by rw [HCL.out]; exact HN.out) (k := i) (by rw [HCL.out, ← HN.out]; omega) t0 t1
                    refine ⟨i + 1, m + 2, by go_num, by go_num, by omega, by omega, by omega, Lib.hid (by rw [hiN.out]; exact q2.symm), Lib.hid (below_store (below_store (below_drewN hbw.out nq) Hbase.out.2 Hbase.out.1 _) Hbase.out.2 Hbase.out.1 _), Lib.hid ?_⟩
                    rw [show j + 1 + (m + 2) = j + 1 + m + 2 by omega, q1, show l[j + 1 + m + 1]'Hjl.out = y2 from HY2.out.symm]
                    rw [hiN.out] at hset ⊢
                    exact hset
                  case measure => simp [intOf]; omega
            · have hend := Lib.hid (show j + 1 + k2 = n by omega)
              have hke : ((k2 : Int) < ((n - (j + 1) : Nat) : Int)) = False := by simp; omega
              have hin : i < n := by omega
              clear hlt2
              have HZ : ∀ t, t < n * 2 → (wr.cell? ⟨g, t, none⟩).isSome = true := fun t ht => by
                have hlc := HCL.out
                have hn2 := HN.out
                obtain ⟨u0, u1, -, -⟩ := how.out.cells (j := t / 2) (by omega)
                rcases Nat.mod_two_eq_zero_or_one t with h | h
                · rw [show t / 2 * 2 = t by omega] at u0; rw [u0]; rfl
                · rw [show t / 2 * 2 + 1 = t by omega] at u1; rw [u1]; rfl
              have hwe : cpC l (j + 1 + k2) ≠ [] := by intro h; have := HCL.out; rw [h, ← HN.out] at this; simp at this; omega
              have HF := how.out.frozen hwe
              have hzl : (Builtin.zeroCells (Value.agg #[.string ⟨#[]⟩, .int .i64 0]).cells (n - i)).toList.length = (n - i) * 2 := by simp [Builtin.zeroCells, Value.cells]
              obtain ⟨news, hnews⟩ : ∃ news, news = (Builtin.zeroCells (Value.agg #[.string ⟨#[]⟩, .int .i64 0]).cells (n - i)).toList := ⟨_, rfl⟩
              have hclr : ∀ ty, (Builtin.clear_ #[36] ty #[.slice (some ⟨g, i * 2, none⟩) (n - i) (cap - i)]).run Try.prog wr = .ok (.tuple #[]) (wr.setCells g (i * 2) news) :=
                fun ty => by
                  rw [hnews]
                  exact run_clear_sliceK wr _ _ ty _ Try.underlying36 zeroP (by simp [Value.cells, Value.oneCell']) g (i * 2) _ _ (by omega) (fun t ht => by
                    have ht' : t < (n - i) * 2 := ht
                    exact HZ _ (by omega)) (fun t _ => HF _)
              rw [← hnews] at hzl
              have Hzl := Lib.hid hzl
              have hmc : ¬ cap = i := by omega
              have hic : (i : Int) ≤ (n : Int) := by omega
              clear hnews hzl HZ HF hwe
              go_wp2_with fail
              go_ret
              have hown := own_clear (E := prdE) how.out (by rw [HCL.out]; exact HN.out) (i := i) (by rw [HCL.out, ← HN.out]; exact hin) (cs := news) Hzl.out
              refine ⟨_, rfl, below_stores hbw.out Hbase.out.2 Hbase.out.1 _, ?_⟩
              rw [hend.out, HN.out, hiN.out, hend.out, HN.out] at hown
              rw [hiN.out, hend.out, HN.out, ← cp_end l]
              exact hown
        · have HE := Lib.hid hxy
          rcases prd_ne hxy with e1 | ⟨e1, e2⟩
          · clear hxy
            go_upto_region 6 with fail
            go_quiet (fail)
            go_wp2_with fail
            go_roundw
            case rel =>
              refine ⟨j + 2, by omega, by omega, by go_num, Lib.hid (cp_next (by have := HN.out; omega) hcp.out fun h => HE.out (by rw [HX.out, HY.out]; exact h.symm)), Lib.hid (below_drewN hb.out nq), Lib.hid (ho.out.to (below_drewN (Below.refl _ _) nq))⟩
            case measure => simp [intOf]; omega
          · clear hxy
            go_upto_region 6 with fail
            go_quiet (fail)
            go_wp2_with fail
            go_roundw
            case rel =>
              refine ⟨j + 2, by omega, by omega, by go_num, Lib.hid (cp_next (by have := HN.out; omega) hcp.out fun h => HE.out (by rw [HX.out, HY.out]; exact h.symm)), Lib.hid (below_drewN hb.out nq), Lib.hid (ho.out.to (below_drewN (Below.refl _ _) nq))⟩
            case measure => simp [intOf]; omega
      · have hkn := Lib.hid (show k = n by omega)
        have hkx : ((k : Int) < (n : Int)) = False := by simp; omega
        clear hlt
        go_wp2_with fail
        go_ret
        have e := hcp.out
        rw [hkn.out, List.take_of_length_le (by have := HN.out; omega)] at e
        exact ⟨_, rfl, hb.out, by rw [e]; exact ho.out⟩
end
section
open Go Go.RowKit

/-- A row of one's own that lies in a block. -/
def OwnK (S : Nat → Prop) (base : Nat) (w : World) (g n cap : Nat) (l : List Lnk) : Prop := Own lnkE S base 57 w (.slice (some ⟨g, 0, none⟩) n cap) l
theorem OwnK.cells {S : Nat → Prop} {base : Nat} {w : World} {g n cap : Nat} {l : List Lnk} (h : OwnK S base w g n cap l) {j : Nat} (hj : j < l.length) :
    w.cell? ⟨g, j * 3, none⟩ = some (.int .i64 l[j].fr) ∧ w.cell? ⟨g, j * 3 + 1, none⟩ = some (.int .i64 l[j].2) ∧ w.cell? ⟨g, j * 3 + 2, none⟩ = some (.bool l[j].neg) ∧ l[j].fr ≤ 1000000 ∧ l[j].2 ≤ 1000000 := by
  obtain ⟨g', cap', he, -, -, -, -, h1, -⟩ := Own.getK h (by rintro rfl; simp at hj)
  simp only [Value.slice.injEq, Option.some.injEq, Addr.mk.injEq, and_true] at he
  obtain ⟨rfl, -⟩ := he
  exact h1 j hj
theorem OwnK.frozen {S : Nat → Prop} {base : Nat} {w : World} {g n cap : Nat} {l : List Lnk} (h : OwnK S base w g n cap l) (hl : l ≠ []) (j : Nat) : w.frozen? ⟨g, j, none⟩ = false := by
  obtain ⟨g', cap', he, -, -, -, -, -, h1⟩ := Own.getK h hl
  simp only [Value.slice.injEq, Option.some.injEq, Addr.mk.injEq, and_true] at he
  obtain ⟨rfl, -⟩ := he
  exact h1 j
theorem OwnK.set {S : Nat → Prop} {base : Nat} {w : World} {g n cap : Nat} {l : List Lnk} (h : OwnK S base w g n cap l) (hn : n = l.length) {k : Nat} (hk : k < l.length) {y : Lnk} (h1 : y.fr ≤ 1000000) (h2 : y.2 ≤ 1000000) :
    OwnK S base (((w.setCell ⟨g, k * 3, none⟩ (.int .i64 y.fr)).setCell ⟨g, k * 3 + 1, none⟩ (.int .i64 y.2)).setCell ⟨g, k * 3 + 2, none⟩ (.bool y.neg)) g n cap (l.set k y) :=
  Own.setE (E := lnkE) (cs := [.int .i64 y.fr, .int .i64 y.2, .bool y.neg]) h hn hk ⟨rfl, h1, h2⟩
theorem OwnK.to {S : Nat → Prop} {base : Nat} {w w' : World} {g n cap : Nat} {l : List Lnk} (h : OwnK S base w g n cap l) (hw : Below w.heap.size w w') : OwnK S base w' g n cap l := Own.move h hw
theorem zeroK (w : World) : (zeroValue 57).run Try.prog w = .ok (.agg #[.int .i64 0, .int .i64 0, .bool false]) w := by kernel_rfl
set_option maxHeartbeats 6400000 in
set_option maxRecDepth 100000 in
theorem compactK_spec {S : Nat → Prop} {base : Nat} {w : World} {v : Value} {l : List Lnk} (hl : Own lnkE S base 57 w v l) (hbase : base ≤ w.heap.size) (hlen : l.length ≤ 1000000) :
    Calls Try.prog 61 #[v] w fun e w' => ∃ r, e = .returned r ∧ Below base w w' ∧ Own lnkE S base 57 w' r (cptL l) := by
  by_cases h2 : l.length < 2
  · have HL := Lib.hid hl
    obtain ⟨ao, cap, rfl, -, -⟩ := hl.shape
    have He := Lib.hid (cp_one h2)
    clear hl
    go_enter Try.func61, Try.ntmps61
    go_wp2_with fail
    go_ret
    exact ⟨_, rfl, Below.refl _ _, by rw [He.out]; exact HL.out⟩
  · obtain ⟨g, cap, rfl, hg, hgl, hc1, hc2, -, -⟩ := hl.getK (by rintro rfl; simp at h2)
    have HL := Lib.hid (show OwnK S base w g l.length cap l from hl)
    have hne := Lib.hid (show l ≠ [] by rintro rfl; simp at h2)
    obtain ⟨n, hn⟩ : ∃ n, n = l.length := ⟨_, rfl⟩
    rw [← hn] at h2 hlen hc1
    rw [← hn]
    have HN := Lib.hid hn
    rw [← hn] at HL
    have Hbase := Lib.hid (show base ≤ w.heap.size ∧ base ≤ g from ⟨hbase, hg⟩)
    have h2' : ((n : Int) < 2) = False := by simp; omega
    clear hl hn hbase hg hgl
    go_enter Try.func61, Try.ntmps61
    go_wp2_with fail
    clear h2'
    go_loopw [3] (fun i wr => ∃ k : Nat, 1 ≤ k ∧ k ≤ n ∧ i = .int .i64 k ∧ Hid (cptL (l.take k) = l.take k) ∧ Hid (Below base w wr) ∧ Hid (OwnK S base wr g n cap l)) (fun i _ => n - (intOf i).toNat)
    case atStart => exact ⟨1, Nat.le_refl _, by omega, rfl, Lib.hid (cp_one (by rw [List.length_take]; omega)), Lib.hid (Below.refl _ _), HL⟩
    case round =>
      obtain ⟨k, hk1, hk, rfl, hcp, hb, ho⟩ := hrel
      clear HL
      by_cases hlt : k < n
      · obtain ⟨j, rfl⟩ : ∃ j, k = j + 1 := ⟨k - 1, by omega⟩
        obtain ⟨a0, a1, a2, -, -⟩ := ho.out.cells (show j < l.length by have := HN.out; omega)
        obtain ⟨b0, b1, b2, g0, g1⟩ := ho.out.cells (show j + 1 < l.length by have := HN.out; omega)
        obtain ⟨x, hx⟩ : ∃ x, x = l[j]'(by have := HN.out; omega) := ⟨_, rfl⟩
        obtain ⟨y, hy⟩ : ∃ y, y = l[j + 1]'(by have := HN.out; omega) := ⟨_, rfl⟩
        rw [← hx] at a0 a1 a2
        rw [← hy] at b0 b1 b2 g0 g1
        have HX := Lib.hid hx
        have HY := Lib.hid hy
        clear hx hy
        have hkl : ((j + 1 : Nat) : Int) < (n : Int) := by omega
        have hk0 : (0 : Int) ≤ ((j + 1 : Nat) : Int) := by omega
        have hj0 : ((j + 1 : Nat) : Int) - 1 = (j : Int) := by omega
        have hjn : (j : Int) < (n : Int) := by omega
        have hcj : ¬ cap = j + 1 := by omega
        by_cases hxy : y = x
        · have e1 : ((y.fr : Int) == (x.fr : Int)) = true := by rw [hxy]; simp
          have e2 : ((y.2 : Int) == (x.2 : Int)) = true := by rw [hxy]; simp
          have e3 : (y.neg == x.neg) = true := by rw [hxy]; simp
          have HE := Lib.hid hxy
          clear hxy
          have hcp1 := Lib.hid (show cpN l (j + 2) = j + 1 ∧ cpC l (j + 2) = l from by
            have hjl : j + 1 < l.length := by have := HN.out; omega
            obtain ⟨q1, q2⟩ := cp_same hjl (show l[j] = l[j + 1] by rw [← HX.out, ← HY.out, HE.out])
            exact ⟨by rw [q2, cpN_low hcp.out (by omega)], by rw [q1, cpC_low hcp.out]⟩)
          clear a0 a1 a2 b0 b1 b2 g0 g1
          obtain ⟨a0, a1, a2, -, -⟩ := ho.out.cells (show j < l.length by have := HN.out; omega)
          obtain ⟨b0, b1, b2, -, -⟩ := ho.out.cells (show j + 1 < l.length by have := HN.out; omega)
          rw [← HX.out] at a0 a1 a2
          rw [← HY.out] at b0 b1 b2
          go_upto_region 6 with fail
          go_quiet (fail)
          go_wp2_with fail
          have hb2 := Lib.hid (below_drewN hb.out nq)
          have ho2 := Lib.hid (ho.out.to (below_drewN (Below.refl _ _) nq))
          clear hb ho a0 a1 a2 b0 b1 b2
          go_loopw [3, 5] (fun i q wr => ∃ i' k2 : Nat, i = .int .i64 i' ∧ q = .int .i64 k2 ∧ 1 ≤ k2 ∧ j + 1 + k2 ≤ n ∧ i' ≤ j + k2 ∧ Hid (i' = cpN l (j + 1 + k2)) ∧ Hid (Below base w wr) ∧ Hid (OwnK S base wr g n cap (cpC l (j + 1 + k2)))) (fun _ q _ => n - (j + 1 + (intOf q).toNat))
          case atStart => exact ⟨j + 1, 1, by go_num, by go_num, Nat.le_refl _, by omega, by omega, Lib.hid hcp1.out.1.symm, hb2, Lib.hid (by rw [hcp1.out.2]; exact ho2.out)⟩
          case round =>
            obtain ⟨i, k2, rfl, rfl, h21, h2n, hi2, hiN, hbw, how⟩ := hrel
            clear hb2 ho2 hcp1 e1 e2 e3 hcp hkl hk0 hj0 hjn
            have HCL := Lib.hid (cpC_len l (j + 1 + k2))
            have hi0 : (0 : Int) ≤ (i : Int) := by omega
            have hk2 : (0 : Int) ≤ (k2 : Int) := by omega
            by_cases hlt2 : j + 1 + k2 < n
            · obtain ⟨m, rfl⟩ : ∃ m, k2 = m + 1 := ⟨k2 - 1, by omega⟩
              have hjl : j + 1 + (m + 1) < l.length := by have := HN.out; omega
              obtain ⟨p0, p1, p2, -, -⟩ := how.out.cells (show j + 1 + m < _ by rw [HCL.out]; omega)
              obtain ⟨r0, r1, r2, t0, t1⟩ := how.out.cells (show j + 1 + (m + 1) < _ by rw [HCL.out]; omega)
              rw [cpC_get (show j + 1 + m < l.length by omega) (by have := hiN.out; omega)] at p0 p1 p2
              rw [cpC_get hjl (by have := hiN.out; omega)] at r0 r1 r2 t0 t1
              obtain ⟨x2, hx2⟩ : ∃ x, x = l[j + 1 + m]'(by omega) := ⟨_, rfl⟩
              obtain ⟨y2, hy2⟩ : ∃ y, y = l[j + 1 + (m + 1)] := ⟨_, rfl⟩
              rw [← hx2] at p0 p1 p2
              rw [← hy2] at r0 r1 r2 t0 t1
              rw [show (j + 1 + m) * 3 = (j + 1) * 3 + m * 3 by omega] at p0 p1 p2
              rw [show (j + 1 + (m + 1)) * 3 = (j + 1) * 3 + (m + 1) * 3 by omega] at r0 r1 r2
              have HX2 := Lib.hid hx2
              have HY2 := Lib.hid hy2
              have Hjl := Lib.hid hjl
              clear hx2 hy2
              have hm1 : ((m + 1 : Nat) : Int) - 1 = (m : Int) := by omega
              have hmn : (m : Int) < ((n - (j + 1) : Nat) : Int) := by omega
              have hmn1 : ((m + 1 : Nat) : Int) < ((n - (j + 1) : Nat) : Int) := by omega
              by_cases hxy2 : y2 = x2
              · have e1 : ((y2.fr : Int) == (x2.fr : Int)) = true := by rw [hxy2]; simp
                have e2 : ((y2.2 : Int) == (x2.2 : Int)) = true := by rw [hxy2]; simp
                have e3 : (y2.neg == x2.neg) = true := by rw [hxy2]; simp
                have HE2 := Lib.hid hxy2
                clear hxy2
                go_upto_region 11 with fail
                go_quiet (fail)
                go_wp2_with fail
                go_roundw
                case rel =>
                  obtain ⟨q1, q2⟩ := cp_same (l := l) (k := j + 1 + m) Hjl.out (by rw [← HX2.out, ← HE2.out, HY2.out]; rfl)
                  exact ⟨i, m + 2, rfl, by go_num, by omega, by omega, by omega, Lib.hid (by rw [hiN.out]; exact q2.symm), Lib.hid (below_drewN hbw.out nq), Lib.hid (by rw [show j + 1 + (m + 2) = j + 1 + m + 2 by omega, q1]; exact how.out.to (below_drewN (Below.refl _ _) nq))⟩
                case measure => simp [intOf]; omega
              · have HE2 := Lib.hid hxy2
                have hiw : i < (cpC l (j + 1 + (m + 1))).length := by rw [HCL.out, ← HN.out]; omega
                obtain ⟨o0, o1, o2, -, -⟩ := how.out.cells hiw
                have hwe : cpC l (j + 1 + (m + 1)) ≠ [] := by intro h; rw [h] at hiw; simp at hiw
                have f0 := how.out.frozen hwe (i * 3)
                have f1 := how.out.frozen hwe (i * 3 + 1)
                have f2 := how.out.frozen hwe (i * 3 + 2)
                generalize (cpC l (j + 1 + (m + 1)))[i] = z at o0 o1 o2
                have hin : (i : Int) < (n : Int) := by omega
                clear hwe hiw
                rcases lnk_ne hxy2 with e1 | ⟨e1, e2⟩ | ⟨e1, e2, e3⟩
                · clear hxy2
                  go_upto_region 11 with fail
                  go_quiet (fail)
                  go_wp2_with fail
                  go_roundw
                  case rel =>
                    obtain ⟨q1, q2⟩ := cp_new (l := l) (k := j + 1 + m) Hjl.out (fun h => HE2.out (by rw [HX2.out, HY2.out]; exact h.symm))
                    have hset := OwnK.set (how.out.to (below_drewN (Below.refl _ _) nq)) (by rw [HCL.out]; exact HN.out) (k := i) (by rw [HCL.out, ← HN.out]; omega) t0 t1
                    refine ⟨i + 1, m + 2, by go_num, by go_num, by omega, by omega, by omega, Lib.hid (by rw [hiN.out]; exact q2.symm), Lib.hid (below_store (below_store (below_store (below_drewN hbw.out nq) Hbase.out.2 Hbase.out.1 _) Hbase.out.2 Hbase.out.1 _) Hbase.out.2 Hbase.out.1 _), Lib.hid ?_⟩
                    rw [show j + 1 + (m + 2) = j + 1 + m + 2 by omega, q1, show l[j + 1 + m + 1]'Hjl.out = y2 from HY2.out.symm]
                    rw [hiN.out] at hset ⊢
                    exact hset
                  case measure => simp [intOf]; omega
                · clear hxy2
                  go_upto_region 11 with fail
                  go_quiet (fail)
                  go_wp2_with fail
                  go_roundw
                  case rel =>
                    obtain ⟨q1, q2⟩ := cp_new (l := l) (k := j + 1 + m) Hjl.out (fun h => HE2.out (by rw [HX2.out, HY2.out]; exact h.symm))
                    have hset := OwnK.set (how.out.to (below_drewN (Below.refl _ _) nq)) (by rw [HCL.out]; exact HN.out) (k := i) (by rw [HCL.out, ← HN.out]; omega) t0 t1
                    refine ⟨i + 1, m + 2, by go_num, by go_num, by omega, by omega, by omega, Lib.hid (by rw [hiN.out]; exact q2.symm), Lib.hid (below_store (below_store (below_store (below_drewN hbw.out nq) Hbase.out.2 Hbase.out.1 _) Hbase.out.2 Hbase.out.1 _) Hbase.out.2 Hbase.out.1 _), Lib.hid ?_⟩
                    rw [show j + 1 + (m + 2) = j + 1 + m + 2 by omega, q1, show l[j + 1 + m + 1]'Hjl.out = y2 from HY2.out.symm]
                    rw [hiN.out] at hset ⊢
                    exact hset
                  case measure => simp [intOf]; omega
                · clear hxy2
                  go_upto_region 11 with fail
                  go_quiet (fail)
                  go_wp2_with fail
                  go_roundw
                  case rel =>
                    obtain ⟨q1, q2⟩ := cp_new (l := l) (k := j + 1 + m) Hjl.out (fun h => HE2.out (by rw [HX2.out, HY2.out]; exact h.symm))
                    have hset := OwnK.set (how.out.to (below_drewN (Below.refl _ _) nq)) (by rw [HCL.out]; exact HN.out) (k := i) (by rw [HCL.out, ← HN.out]; omega) t0 t1
                    refine ⟨i + 1, m + 2, by go_num, by go_num, by omega, by omega, by omega, Lib.hid (by rw [hiN.out]; exact q2.symm), Lib.hid (below_store (below_store (below_store (below_drewN hbw.out nq) Hbase.out.2 Hbase.out.1 _) Hbase.out.2 Hbase.out.1 _) Hbase.out.2 Hbase.out.1 _), Lib.hid ?_⟩
                    rw [show j + 1 + (m + 2) = j + 1 + m + 2 by omega, q1, show l[j + 1 + m + 1]'Hjl.out = y2 from HY2.out.symm]
                    rw [hiN.out] at hset ⊢
                    exact hset
                  case measure => simp [intOf]; omega
            · have hend := Lib.hid (show j + 1 + k2 = n by omega)
              have hke : ((k2 : Int) < ((n - (j + 1) : Nat) : Int)) = False := by simp; omega
              have hin : i < n := by omega
              clear hlt2
              have HZ : ∀ t, t < n * 3 → (wr.cell? ⟨g, t, none⟩).isSome = true := fun t ht => by
                have hlc := HCL.out
                have hn2 := HN.out
                obtain ⟨u0, u1, u2, -, -⟩ := how.out.cells (j := t / 3) (by omega)
                rcases (show t % 3 = 0 ∨ t % 3 = 1 ∨ t % 3 = 2 by omega) with h | h | h
                · rw [show t / 3 * 3 = t by omega] at u0; rw [u0]; rfl
                · rw [show t / 3 * 3 + 1 = t by omega] at u1; rw [u1]; rfl
                · rw [show t / 3 * 3 + 2 = t by omega] at u2; rw [u2]; rfl
              have hwe : cpC l (j + 1 + k2) ≠ [] := by intro h; have := HCL.out; rw [h, ← HN.out] at this; simp at this; omega
              have HF := how.out.frozen hwe
              have hzl : (Builtin.zeroCells (Value.agg #[.int .i64 0, .int .i64 0, .bool false]).cells (n - i)).toList.length = (n - i) * 3 := by simp [Builtin.zeroCells, Value.cells]
              obtain ⟨news, hnews⟩ : ∃ news, news = (Builtin.zeroCells (Value.agg #[.int .i64 0, .int .i64 0, .bool false]).cells (n - i)).toList := ⟨_, rfl⟩
              have hclr : ∀ ty, (Builtin.clear_ #[41] ty #[.slice (some ⟨g, i * 3, none⟩) (n - i) (cap - i)]).run Try.prog wr = .ok (.tuple #[]) (wr.setCells g (i * 3) news) :=
                fun ty => by
                  rw [hnews]
                  exact run_clear_sliceK wr _ _ ty _ Try.underlying41 zeroK (by simp [Value.cells, Value.oneCell']) g (i * 3) _ _ (by omega) (fun t ht => by
                    have ht' : t < (n - i) * 3 := ht
                    exact HZ _ (by omega)) (fun t _ => HF _)
              rw [← hnews] at hzl
              have Hzl := Lib.hid hzl
              have hmc : ¬ cap = i := by omega
              have hic : (i : Int) ≤ (n : Int) := by omega
              clear hnews hzl HZ HF hwe
              go_wp2_with fail
              go_ret
              have hown := own_clear (E := lnkE) how.out (by rw [HCL.out]; exact HN.out) (i := i) (by rw [HCL.out, ← HN.out]; exact hin) (cs := news) Hzl.out
              refine ⟨_, rfl, below_stores hbw.out Hbase.out.2 Hbase.out.1 _, ?_⟩
              rw [hend.out, HN.out, hiN.out, hend.out, HN.out] at hown
              rw [hiN.out, hend.out, HN.out, ← cp_end l]
              exact hown
        · have HE := Lib.hid hxy
          rcases lnk_ne hxy with e1 | ⟨e1, e2⟩ | ⟨e1, e2, e3⟩
          · clear hxy
            go_upto_region 6 with fail
            go_quiet (fail)
            go_wp2_with fail
            go_roundw
            case rel =>
              refine ⟨j + 2, by omega, by omega, by go_num, Lib.hid (cp_next (by have := HN.out; omega) hcp.out fun h => HE.out (by rw [HX.out, HY.out]; exact h.symm)), Lib.hid (below_drewN hb.out nq), Lib.hid (ho.out.to (below_drewN (Below.refl _ _) nq))⟩
            case measure => simp [intOf]; omega
          · clear hxy
            go_upto_region 6 with fail
            go_quiet (fail)
            go_wp2_with fail
            go_roundw
            case rel =>
              refine ⟨j + 2, by omega, by omega, by go_num, Lib.hid (cp_next (by have := HN.out; omega) hcp.out fun h => HE.out (by rw [HX.out, HY.out]; exact h.symm)), Lib.hid (below_drewN hb.out nq), Lib.hid (ho.out.to (below_drewN (Below.refl _ _) nq))⟩
            case measure => simp [intOf]; omega
          · clear hxy
            go_upto_region 6 with fail
            go_quiet (fail)
            go_wp2_with fail
            go_roundw
            case rel =>
              refine ⟨j + 2, by omega, by omega, by go_num, Lib.hid (cp_next (by have := HN.out; omega) hcp.out fun h => HE.out (by rw [HX.out, HY.out]; exact h.symm)), Lib.hid (below_drewN hb.out nq), Lib.hid (ho.out.to (below_drewN (Below.refl _ _) nq))⟩
            case measure => simp [intOf]; omega
      · have hkn := Lib.hid (show k = n by omega)
        have hkx : ((k : Int) < (n : Int)) = False := by simp; omega
        clear hlt
        go_wp2_with fail
        go_ret
        have e := hcp.out
        rw [hkn.out, List.take_of_length_le (by have := HN.out; omega)] at e
        exact ⟨_, rfl, hb.out, by rw [e]; exact ho.out⟩
end
end Go.Proofs.Ytadbdmnngmlnhaa
