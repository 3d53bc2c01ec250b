/-
  Tables and results, in plain Lean and in memory: numbered variables, what is found, what may be.
-/
import Derived.Test.YtckkjjiaecnciaaGreatDpA
import Derived.Test.YtckkjjiaecnciaaGreatMtF
import Derived.Test.YtckkjjiaecnciaaGreatTmE
namespace Go.Proofs.YtckkjjiaecnciaaGreat
open Go Go.RowKit

/-- The place of the first one that is so; -1: none is. -/
def idxZ {α : Type} (p : α → Bool) (l : List α) : Int := match l.findIdx? p with
  | some i => (i : Int)
  | none => -1
theorem idxZ_hit {α : Type} {p : α → Bool} {l : List α} {k : Nat} (hk : k < l.length) (h : p l[k] = true) (hno : ∀ j (hj : j < l.length), j < k → p l[j] = false) : idxZ p l = (k : Int) := by
  unfold idxZ
  rw [List.findIdx?_eq_some_iff_getElem.2 ⟨hk, h, fun j hj => by rw [hno j (by omega) hj]; simp⟩]
theorem idxZ_miss {α : Type} {p : α → Bool} {l : List α} (hno : ∀ j (hj : j < l.length), p l[j] = false) : idxZ p l = -1 := by
  unfold idxZ
  rw [List.findIdx?_eq_none_iff.2 fun x hx => by
    obtain ⟨j, hj, rfl⟩ := List.mem_iff_getElem.1 hx
    exact hno j hj]
theorem idxZ_nat {α : Type} {p : α → Bool} {l : List α} {k : Nat} (h : idxZ p l = (k : Int)) : ∃ hk : k < l.length, p l[k] = true ∧ ∀ j (hj : j < l.length), j < k → p l[j] = false := by
  unfold idxZ at h
  cases hx : l.findIdx? p with
  | none => rw [hx] at h; simp only at h; omega
  | some i =>
    rw [hx] at h
    simp only at h
    obtain rfl : i = k := by omega
    obtain ⟨hk, h1, h2⟩ := List.findIdx?_eq_some_iff_getElem.1 hx
    exact ⟨hk, h1, fun j hj hlt => by simpa using h2 j hlt⟩
theorem idxZ_cases {α : Type} (p : α → Bool) (l : List α) : (idxZ p l = -1 ∧ ∀ j (hj : j < l.length), p l[j] = false) ∨ ∃ k : Nat, ∃ hk : k < l.length, idxZ p l = (k : Int) ∧ p l[k] = true ∧ ∀ j (hj : j < l.length), j < k → p l[j] = false := by
  cases hx : l.findIdx? p with
  | none =>
    left
    refine ⟨by unfold idxZ; rw [hx], fun j hj => ?_⟩
    have := List.findIdx?_eq_none_iff.1 hx _ (List.getElem_mem hj)
    simpa using this
  | some i =>
    right
    obtain ⟨hk, h1, h2⟩ := List.findIdx?_eq_some_iff_getElem.1 hx
    exact ⟨i, hk, by unfold idxZ; rw [hx], h1, fun j hj hlt => by simpa using h2 j hlt⟩
theorem allR_no {n k : Nat} {f : Nat → Bool} (hk : k < n) (h : f k = false) : (List.range n).all f = false := by
  rw [List.all_eq_false]
  exact ⟨k, List.mem_range.2 hk, by rw [h]; simp⟩
theorem allR_yes {n : Nat} {f : Nat → Bool} (h : ∀ j, j < n → f j = true) : (List.range n).all f = true := by
  rw [List.all_eq_true]
  exact fun j hj => h j (List.mem_range.1 hj)
theorem allR_iff {n : Nat} {f : Nat → Bool} : (List.range n).all f = true ↔ ∀ j, j < n → f j = true :=
  ⟨fun h j hj => List.all_eq_true.1 h j (List.mem_range.2 hj), allR_yes⟩

/-! ### Terms with numbered variables -/
def placeN (l : List Int) (n : Int) : Int := idxZ (fun x => decide (x = n)) l
def numC (l : List Int) (c : Cell) : Cell := if c.kind = 1 then { c with n := placeN l c.n } else c
def numT (t : List Cell) : List Cell := t.map (numC (varsL t))
def atomT' (t : List Cell) : Bool := rightT t && isFun t

/-! ### Tables -/
structure Tab where
  call : List Cell
  ans : List (List Cell)
deriving DecidableEq
structure Res where
  tabs : List Tab
  lks : List (Int × Int)
def findTb (s : List Tab) (c : List Cell) : Int := idxZ (fun t => decide (t.call = numT c)) s
def hasT (l : List (List Cell)) (t : List Cell) : Bool := decide (t ∈ l)
def instB (c t : List Cell) : Bool := rightT t && groundT t && matchB c t
def ansOK (t : Tab) (k : Nat) : Bool := match t.ans[k]? with
  | none => true
  | some a => instB t.call a && !hasT (t.ans.take k) a
def tabOK (s : List Tab) (i : Nat) : Bool := match s[i]? with
  | none => true
  | some t => atomT' t.call && decide (numT t.call = t.call) && decide (findTb s t.call = (i : Int)) && (List.range t.ans.length).all (ansOK t)
def rightTs (s : List Tab) : Bool := (List.range s.length).all (tabOK s)
def risOK (l : List (List Cell)) (k : Nat) : Bool := match l[k]? with
  | none => true
  | some a => k == 0 || decide (cmpR (l[k - 1]?.getD []) a < 0)
def riseOK (s : List Tab) (i : Nat) : Bool := match s[i]? with
  | none => true
  | some t => (i == 0 || decide (cmpR ((s[i - 1]?.map (·.call)).getD []) t.call < 0)) && (List.range t.ans.length).all (risOK t.ans)
def lnkOK (n : Nat) (l : List (Int × Int)) (i : Nat) : Bool := match l[i]? with
  | none => true
  | some e => decide (0 ≤ e.1) && decide (e.1 < n) && decide (0 ≤ e.2) && decide (e.2 < n) &&
      (i == 0 || !(decide (e.1 < (l[i - 1]?.getD (0, 0)).1) || decide ((l[i - 1]?.getD (0, 0)).1 = e.1) && decide (e.2 ≤ (l[i - 1]?.getD (0, 0)).2)))
def mayB (r : Res) : Bool := rightTs r.tabs && (List.range r.tabs.length).all (riseOK r.tabs) && (List.range r.lks.length).all (lnkOK r.tabs.length r.lks)
def fewT (t : Tab) : Bool := decide (t.call.length ≤ 210) && decide (t.ans.length ≤ 30) && t.ans.all fun a => decide (a.length ≤ 210)
def fewB (s : List Tab) : Bool := decide (s.length ≤ 30) && s.all fewT
def greatB (r : Res) : Bool := !fewB r.tabs || decide (200 < r.lks.length) || !mayB r
/-- What a result that is not too great, and may be, is like. -/
structure GoodR (r : Res) : Prop where
  len : r.tabs.length ≤ 30
  lkn : r.lks.length ≤ 200
  call : ∀ t ∈ r.tabs, RightT t.call ∧ t.call.length ≤ 210 ∧ t.ans.length ≤ 30 ∧ ∀ a ∈ t.ans, RightT a
  rng : ∀ e ∈ r.lks, 0 ≤ e.1 ∧ e.1 < r.tabs.length ∧ 0 ≤ e.2 ∧ e.2 < r.tabs.length
  one : ∀ i j (hi : i < r.tabs.length) (hj : j < r.tabs.length), r.tabs[i].call = r.tabs[j].call → i = j
theorem great_good {r : Res} (h : greatB r = false) : GoodR r := by
  unfold greatB mayB fewB at h
  simp only [Bool.or_eq_false_iff, Bool.not_eq_false', Bool.and_eq_true, decide_eq_false_iff_not, decide_eq_true_eq, List.all_eq_true] at h
  obtain ⟨⟨⟨h1, h2⟩, h3⟩, ⟨h4, h5⟩, h6⟩ := h
  have htab : ∀ i (hi : i < r.tabs.length), atomT' r.tabs[i].call = true ∧ numT r.tabs[i].call = r.tabs[i].call ∧ findTb r.tabs r.tabs[i].call = (i : Int) ∧ ∀ a ∈ r.tabs[i].ans, RightT a := by
    intro i hi
    unfold rightTs at h4
    have := allR_iff.1 h4 i hi
    unfold tabOK at this
    rw [List.getElem?_eq_getElem hi] at this
    simp only [Bool.and_eq_true, decide_eq_true_eq] at this
    obtain ⟨⟨⟨a1, a2⟩, a3⟩, a4⟩ := this
    refine ⟨a1, a2, a3, fun a ha => ?_⟩
    obtain ⟨k, hk, rfl⟩ := List.mem_iff_getElem.1 ha
    have := allR_iff.1 a4 k hk
    unfold ansOK at this
    rw [List.getElem?_eq_getElem hk] at this
    simp only [Bool.and_eq_true, instB] at this
    exact of_decide_eq_true this.1.1.1
  refine ⟨h1, by omega, fun t ht => ?_, fun e he => ?_, fun i j hi hj e => ?_⟩
  · have h7 := h2 t ht
    unfold fewT at h7
    simp only [Bool.and_eq_true, decide_eq_true_eq] at h7
    obtain ⟨i, hi, rfl⟩ := List.mem_iff_getElem.1 ht
    obtain ⟨a1, -, -, a4⟩ := htab i hi
    unfold atomT' at a1
    rw [Bool.and_eq_true] at a1
    exact ⟨of_decide_eq_true a1.1, h7.1.1, h7.1.2, a4⟩
  · obtain ⟨i, hi, rfl⟩ := List.mem_iff_getElem.1 he
    have := h6 i (List.mem_range.2 hi)
    unfold lnkOK at this
    rw [List.getElem?_eq_getElem hi] at this
    simp only [Bool.and_eq_true, decide_eq_true_eq] at this
    exact ⟨this.1.1.1.1, this.1.1.1.2, this.1.1.2, this.1.2⟩
  · obtain ⟨-, -, a3, -⟩ := htab i hi
    obtain ⟨-, -, b3, -⟩ := htab j hj
    rw [e, b3] at a3
    omega

/-! ### In memory -/
def tabE : Elt Tab where
  sz := 2
  pos := by decide
  R := fun S w c cs => ∃ v u, cs = [v, u] ∧ Seq cellE S w v c.call ∧ Seq (seqE cellE) S w u c.ans
  len := by rintro _ _ _ _ ⟨v, u, rfl, _⟩; rfl
  one := by
    rintro _ _ _ _ ⟨v, u, rfl, ⟨ao, cap, rfl, _⟩, ⟨bo, cap', rfl, _⟩⟩ u hu
    simp at hu; rcases hu with rfl | rfl <;> rfl
  mono := by
    rintro S T w w' xs _ ⟨v, u, rfl, h, h2⟩ hT hw
    exact ⟨v, u, rfl, h.mono hT hw, h2.mono hT hw⟩
def edgE : Elt (Int × Int) where
  sz := 2
  pos := by decide
  R := fun _ _ p cs => cs = [.int .i64 p.1, .int .i64 p.2] ∧ IntOK p.1 ∧ IntOK p.2
  len := by rintro _ _ _ _ ⟨rfl, _⟩; rfl
  one := by rintro _ _ _ _ ⟨rfl, _⟩ u hu; simp at hu; rcases hu with rfl | rfl <;> rfl
  mono := by rintro S T w w' xs _ h hT hw; exact h
theorem SeqAt.tab {S : Nat → Prop} {w : World} {ao : Option Addr} {xs : List Tab} (h : SeqAt tabE S w ao xs) {k : Nat} (hk : k < xs.length) :
    ∃ b off ha hc la lc, ao = some ⟨b, off, none⟩ ∧ S b ∧ b < w.heap.size ∧ w.cell? ⟨b, off + k * 2, none⟩ = some (.slice ha xs[k].call.length hc) ∧
      w.cell? ⟨b, off + k * 2 + 1, none⟩ = some (.slice la xs[k].ans.length lc) ∧ Seq cellE S w (.slice ha xs[k].call.length hc) xs[k].call ∧ Seq (seqE cellE) S w (.slice la xs[k].ans.length lc) xs[k].ans := by
  obtain ⟨b, off, cs, h1, h2, h3, ⟨v, u, rfl, hv, hu⟩, h5⟩ := h k _ (List.getElem?_eq_getElem hk)
  obtain ⟨ha, hc, rfl, _⟩ := id hv
  obtain ⟨la, lc, rfl, _⟩ := id hu
  exact ⟨b, off, ha, hc, la, lc, h1, h2, h3, h5 0 (by decide), h5 1 (by decide), hv, hu⟩
theorem SeqAt.edg {S : Nat → Prop} {w : World} {ao : Option Addr} {xs : List (Int × Int)} (h : SeqAt edgE S w ao xs) {k : Nat} (hk : k < xs.length) :
    ∃ b off, ao = some ⟨b, off, none⟩ ∧ S b ∧ b < w.heap.size ∧ w.cell? ⟨b, off + k * 2, none⟩ = some (.int .i64 xs[k].1) ∧
      w.cell? ⟨b, off + k * 2 + 1, none⟩ = some (.int .i64 xs[k].2) ∧ IntOK xs[k].1 ∧ IntOK xs[k].2 := by
  obtain ⟨b, off, cs, h1, h2, h3, ⟨rfl, g1, g2⟩, h5⟩ := h k _ (List.getElem?_eq_getElem hk)
  exact ⟨b, off, h1, h2, h3, h5 0 (by decide), h5 1 (by decide), g1, g2⟩
/-- A table as a value. -/
def TabV (S : Nat → Prop) (w : World) (v : Value) (c : Tab) : Prop := ∃ ha hc la lc, v = .agg #[.slice ha c.call.length hc, .slice la c.ans.length lc] ∧ Seq cellE S w (.slice ha c.call.length hc) c.call ∧ Seq (seqE cellE) S w (.slice la c.ans.length lc) c.ans
theorem TabV.mono {S T : Nat → Prop} {w w' : World} {v : Value} {c : Tab} (h : TabV S w v c) (hT : ∀ b, S b → b < w.heap.size → T b) (hw : ∀ b, S b → b < w.heap.size → w'.heap[b]? = w.heap[b]?) : TabV T w' v c := by
  obtain ⟨ha, hc, la, lc, rfl, h, h2⟩ := h
  exact ⟨ha, hc, la, lc, rfl, h.mono hT hw, h2.mono hT hw⟩
theorem TabV.at {S : Nat → Prop} {w w' : World} {v : Value} {c : Tab} (h : TabV S w v c) (hb : Below w.heap.size w w') : TabV S w' v c :=
  h.mono (fun _ h _ => h) fun b _ hlt => hb.block b hlt
/-- A result as a value. -/
def ResV (S : Nat → Prop) (w : World) (v : Value) (r : Res) : Prop := ∃ ta tc ia il ic la lc, v = .agg #[.slice ta r.tabs.length tc, .slice ia il ic, .slice la r.lks.length lc] ∧ Seq tabE S w (.slice ta r.tabs.length tc) r.tabs ∧ Seq edgE S w (.slice la r.lks.length lc) r.lks
theorem ResV.mono {S T : Nat → Prop} {w w' : World} {v : Value} {r : Res} (h : ResV S w v r) (hT : ∀ b, S b → b < w.heap.size → T b) (hw : ∀ b, S b → b < w.heap.size → w'.heap[b]? = w.heap[b]?) : ResV T w' v r := by
  obtain ⟨ta, tc, ia, il, ic, la, lc, rfl, h, h2⟩ := h
  exact ⟨ta, tc, ia, il, ic, la, lc, rfl, h.mono hT hw, h2.mono hT hw⟩
theorem ResV.at {S : Nat → Prop} {w w' : World} {v : Value} {r : Res} (h : ResV S w v r) (hb : Below w.heap.size w w') : ResV S w' v r :=
  h.mono (fun _ h _ => h) fun b _ hlt => hb.block b hlt
theorem ResV.any {S : Nat → Prop} {w : World} {v : Value} {r : Res} (h : ResV S w v r) : ResV (fun _ => True) w v r := h.mono (fun _ _ _ => trivial) fun _ _ _ => rfl
end Go.Proofs.YtckkjjiaecnciaaGreat
