/-
  Arguments as they come in, as plain lists: terms, rows of terms, pairs of terms; the seat's closed facts that each lift asks.
-/

import Derived.Test.YtaedgpcmkagpeaaGreatGtE
import Derived.ProofKit
import Derived.OpenShut
import Derived.ChangeOld
import Derived.SizedLaws
import Derived.Deep.Slices
import Derived.Deep.Strs
import Derived.Below

import Derived.ChangeArms
import Derived.ChangeSame
namespace Go.Proofs.YtaedgpcmkagpeaaGreat
open Go Go.RowKit Go.Deep Go.ChangeShapes Go.WideShapes Go.ChangeAt

theorem cell_lt {w : World} {a : Addr} {v : Value} (h : w.cell? a = some v) : a.block < w.heap.size := by
  unfold World.cell? at h
  rcases Nat.lt_or_ge a.block w.heap.size with hl | hg
  · exact hl
  · rw [Array.getElem?_eq_none hg] at h
    split at h
    · rename_i heq; cases heq
    · cases h

theorem weights_all {H : Type} {P : Program} {e : TypeId} : ∀ {l : List (DataW H)} {d : DataW H}, d ∈ l → ∀ m ∈ d.weights P e, m ∈ DataW.weightsAll P e l
  | [], _, h => by cases h
  | x :: l, d, h => by
    intro m hm
    simp only [DataW.weightsAll, List.mem_append]
    rcases List.mem_cons.1 h with rfl | h
    · exact .inl hm
    · exact .inr (weights_all h m hm)

section
variable {H : Type} {enc : TypeId × Value → H} {P : Program} {w : World} {base : Nat} {held : Bool}

/-- A slice that has come in is a list. -/
theorem seq_of_trod {α : Type} (E : Elt α) {t e : TypeId} (ht : P.underlying t = some (.slice e)) (hsz : P.cellsOf e = E.sz) (hby : 0 < P.bytesOf e)
    (hel : ∀ (n : Nat) (cs : List Value) (x : DataW H × List MemPlace), cs.length = E.sz → DataW.trod enc P w base (fun _ => true) held n e cs = some x → (∀ m ∈ x.1.weights P e, m ≤ reachBytes) → ∃ y, E.R (fun b => b < w.heap.size) w y cs)
    {fuel : Nat} {v : Value} {x : DataW H × List MemPlace} (h : DataW.trod enc P w base (fun _ => true) held fuel t [v] = some x) (hw : ∀ m ∈ x.1.weights P t, m ≤ reachBytes) :
    ∃ l, Seq E (fun b => b < w.heap.size) w v l := by
  rcases open_slice ht h with ⟨hcs, -⟩ | ⟨a, len, cap, m, n, D, Pl, hcs, hb, hl, hm, hmm, rfl, hx⟩
  · simp only [List.cons.injEq, and_true] at hcs
    subst hcs
    exact ⟨[], Seq.nil E _ w⟩
  · simp only [List.cons.injEq, and_true] at hcs
    subst hcs
    simp only [if_true] at hmm
    subst hmm
    have hall : ∀ i, i < len → ∃ y, ∃ cs, w.cells? base (a.add (i * P.cellsOf e)) (P.cellsOf e) = some cs ∧ E.R (fun b => b < w.heap.size) w y cs := by
      intro i hi
      obtain ⟨cs, h1, h2⟩ := hx i (by omega)
      obtain ⟨_, hlen, _⟩ := World.cells?_some h1
      have key : ∀ k ∈ (D i).weights P e, k ∈ (DataW.slice ((List.range len).map D) ((List.range (m - len)).map fun j => D (len + j))).weights P t := by
        intro k hk
        simp only [DataW.weights, ht, List.mem_cons, List.mem_append]
        exact .inr (.inl (weights_all (List.mem_map.2 ⟨i, List.mem_range.2 hi, rfl⟩) k hk))
      obtain ⟨y, hy⟩ := hel n cs _ (by rw [hlen, hsz]) h2 fun k hk => hw k (key k hk)
      exact ⟨y, cs, h1, hy⟩
    have hlen : len ≤ 140737488355328 := by
      have h1 := hw (((List.range len).map D).length * P.bytesOf e + ((List.range (m - len)).map fun j => D (len + j)).length * P.bytesOf e) (by
        simp only [DataW.weights, ht]
        rw [← Nat.add_mul]
        exact List.mem_cons_self)
      have h2 := reachBytes_lt
      rw [List.length_map, List.length_range] at h1
      have h3 : len * 1 ≤ len * P.bytesOf e := Nat.mul_le_mul_left _ hby
      omega
    have hlist : ∃ l : List α, l.length = len ∧ ∀ i y, l[i]? = some y → ∃ cs, w.cells? base (a.add (i * P.cellsOf e)) (P.cellsOf e) = some cs ∧ E.R (fun b => b < w.heap.size) w y cs := by
      clear hlen hw h hm hl hx
      induction len with
      | zero => exact ⟨[], rfl, fun i y h => by simp at h⟩
      | succ k ih =>
        obtain ⟨l, h1, h2⟩ := ih fun i hi => hall i (by omega)
        obtain ⟨y, cs, h3, h4⟩ := hall k (by omega)
        refine ⟨l ++ [y], by simp [h1], fun i z hz => ?_⟩
        rcases Nat.lt_or_ge i l.length with hi | hi
        · rw [List.getElem?_append_left hi] at hz
          exact h2 i z hz
        · rw [List.getElem?_append_right hi] at hz
          have hi0 : i - l.length = 0 := by
            rcases Nat.eq_zero_or_pos (i - l.length) with h0 | h0
            · exact h0
            · rw [List.getElem?_eq_none (by simp; omega)] at hz; cases hz
          rw [hi0] at hz
          simp only [List.getElem?_cons_zero, Option.some.injEq] at hz
          subst hz
          obtain rfl : i = k := by omega
          exact ⟨cs, h3, h4⟩
    obtain ⟨l, hl1, hl2⟩ := hlist
    refine ⟨l, some a, m, by rw [hl1], by omega, hm, by omega, (fun h => by cases h), fun k y hk => ?_⟩
    obtain ⟨cs, h1, h2⟩ := hl2 k y hk
    obtain ⟨hb', hlen', hc⟩ := World.cells?_some h1
    have hpos := E.pos
    have h0 := hc 0 (by omega)
    rw [List.getElem?_eq_getElem (by omega)] at h0
    obtain ⟨b, off, spot⟩ := a
    have hsp : spot = none := by
      obtain ⟨y0, hy0⟩ : ∃ y0, l[0]? = some y0 := ⟨_, List.getElem?_eq_getElem (by have := (List.getElem?_eq_some_iff.1 hk).1; omega)⟩
      obtain ⟨cs0, g1, g2⟩ := hl2 0 y0 hy0
      obtain ⟨_, hlen0, hc0⟩ := World.cells?_some g1
      have g0 := hc0 0 (by omega)
      rw [List.getElem?_eq_getElem (by omega)] at g0
      have := World.cell?_spot g0
      simpa [Addr.add] using this
    subst hsp
    have hlt := cell_lt h0
    rw [add_add, add_plain] at h0
    refine ⟨b, off, cs, rfl, ?_, ?_, h2, fun j hj => ?_⟩
    · rw [add_add, add_plain] at hlt; exact hlt
    · rw [add_add, add_plain] at hlt; exact hlt
    · have := hc j (by omega)
      rw [add_add, add_plain, hsz] at this
      exact this
end
end Go.Proofs.YtaedgpcmkagpeaaGreat
namespace Go.Proofs.YtaedgpcmkagpeaaGreat
open Go Go.RowKit Go.Deep Go.ChangeShapes Go.WideShapes Go.ChangeAt

section
variable {H : Type} {enc : TypeId × Value → H} {P : Program} {w : World} {base : Nat} {held : Bool}

/-- The types of cells. -/
structure CellTys (P : Program) (c i s : TypeId) : Prop where
  st : ∃ f0 f1 f2 : Field, P.underlying c = some (.struct #[f0, f1, f2]) ∧ (f0.type = i ∧ f0.offset = 0) ∧ (f1.type = s ∧ f1.offset = 1) ∧ (f2.type = i ∧ f2.offset = 2)
  int : P.underlying i = some (.int .i64)
  str : P.underlying s = some .string
  ci : P.cellsOf i = 1
  cs : P.cellsOf s = 1
  cc : P.cellsOf c = 3
  by0 : 0 < P.bytesOf c

theorem cells_of_trod {t c i s : TypeId} (hc : CellTys P c i s) (ht : P.underlying t = some (.slice c))
    {fuel : Nat} {v : Value} {x : DataW H × List MemPlace} (h : DataW.trod enc P w base (fun _ => true) held fuel t [v] = some x) (hw : ∀ m ∈ x.1.weights P t, m ≤ reachBytes) :
    ∃ l, Seq cellE (fun b => b < w.heap.size) w v l := by
  refine seq_of_trod cellE ht hc.cc hc.by0 (fun n cs x hl h hw => ?_) h hw
  obtain ⟨f0, f1, f2, he, h0, h1, h2⟩ := hc.st
  obtain ⟨y0, y1, y2, m, rfl, hlen, g0, g1, g2⟩ := trod_struct3 he h
  rw [h0.1, h0.2, hc.ci] at g0
  rw [h1.1, h1.2, hc.cs] at g1
  rw [h2.1, h2.2, hc.ci] at g2
  match cs, hl with
  | [a, b, d], _ =>
    simp only [List.drop_zero, List.take_succ_cons, List.take_zero, List.drop_succ_cons] at g0 g1 g2
    obtain ⟨k, hk, -, hwf⟩ := DataW.trod_int hc.int g0
    obtain ⟨q, hq, hqy, -⟩ := DataW.trod_string hc.str g1
    obtain ⟨n, hn, -, hwn⟩ := DataW.trod_int hc.int g2
    simp only [List.cons.injEq, and_true] at hk hq hn
    subst hk hq hn
    have hb := bounds_i64 hwf
    have hn := bounds_i64 hwn
    refine ⟨⟨k, q, n⟩, rfl, by unfold IntOK; omega, by unfold IntOK; omega, ?_⟩
    have hr := reachBytes_lt
    have hqw := hw q.data.toList.length (by
      simp only [DataW.weights, he, DataW.weightsEach, List.map_cons, List.map_nil, h0.1, h1.1, h2.1, hqy]
      simp)
    have : q.size = q.data.toList.length := (Array.length_toList (xs := q.data)).symm
    show q.size ≤ _
    omega

/-- A slice of slices of cells. -/
theorem rows_of_trod {t e c i s : TypeId} (hc : CellTys P c i s) (he : P.underlying e = some (.slice c)) (ht : P.underlying t = some (.slice e)) (hsz : P.cellsOf e = 1) (hby : 0 < P.bytesOf e)
    {fuel : Nat} {v : Value} {x : DataW H × List MemPlace} (h : DataW.trod enc P w base (fun _ => true) held fuel t [v] = some x) (hw : ∀ m ∈ x.1.weights P t, m ≤ reachBytes) :
    ∃ l, Seq (seqE cellE) (fun b => b < w.heap.size) w v l := by
  refine seq_of_trod (seqE cellE) ht hsz hby (fun n cs x hl h hw => ?_) h hw
  match cs, hl with
  | [a], _ =>
    obtain ⟨l, hl⟩ := cells_of_trod hc he h hw
    exact ⟨l, a, rfl, hl⟩

end
end Go.Proofs.YtaedgpcmkagpeaaGreat
namespace Go.Proofs.YtaedgpcmkagpeaaGreat
open Go Go.RowKit Go.ChangeShapes Go.WideShapes Go.ChangeAt

theorem own : ownKnob Tryz.prog.godebug = none := by kernel_rfl
theorem laidOut : laidOutB Tryz.prog = true := by kernel_rfl

theorem weights_of {H : Type} {P : Program} {ts : List TypeId} {ds : List (DataW H)} (h : (DataW.weightsEach P ts ds).all (· ≤ reachBytes) = true) {j : Nat} {t : TypeId} {d : DataW H} (ht : ts[j]? = some t) (hd : ds[j]? = some d) : ∀ m ∈ d.weights P t, m ≤ reachBytes := fun m hm => by
  simpa using List.all_eq_true.1 h m (DataW.weights_mem_each ht hd m hm)

theorem cellTys : CellTys Tryz.prog 67 3 9 where
  st := ⟨_, _, _, Tryz.underlying67, ⟨rfl, rfl⟩, ⟨rfl, rfl⟩, ⟨rfl, rfl⟩⟩
  int := Tryz.underlying3
  str := Tryz.underlying9
  ci := by kernel_rfl
  cs := by kernel_rfl
  cc := by kernel_rfl
  by0 := by rw [show Tryz.prog.bytesOf 67 = 32 by kernel_rfl]; omega

set_option maxRecDepth 100000 in
/-- Rows of terms that have come in. -/
theorem rows_in {H : Type} {enc : TypeId × Value → H} {W : World} {a0 : Option Addr} {len0 cap0 : Nat} {d0 : DataW H} {p0 : List MemPlace} (h0 : DataW.Trod enc Tryz.prog W 0 (fun _ => true) true 23 (.slice a0 len0 cap0) d0 p0)
    (hw : ∀ m ∈ d0.weights Tryz.prog 23, m ≤ reachBytes) : ∃ l, Seq (seqE cellE) (fun b => b < W.heap.size) W (.slice a0 len0 cap0) l := by
  have hby : 0 < Tryz.prog.bytesOf 33 := by rw [show Tryz.prog.bytesOf 33 = 24 by kernel_rfl]; omega
  obtain ⟨fuel, hf⟩ := h0
  have hf' : DataW.trod enc Tryz.prog W 0 (fun _ => true) true fuel 23 [.slice a0 len0 cap0] = some (d0, p0) := by simpa [Value.cells] using hf
  exact rows_of_trod cellTys Tryz.underlying33 Tryz.underlying23 (by kernel_rfl) hby hf' hw
set_option maxRecDepth 100000 in
/-- Terms that have come in. -/
theorem cells_read {H : Type} {enc : TypeId × Value → H} {W : World} {a0 : Option Addr} {len0 cap0 : Nat} {d0 : DataW H} {p0 : List MemPlace} (h0 : DataW.Trod enc Tryz.prog W 0 (fun _ => true) true 33 (.slice a0 len0 cap0) d0 p0)
    (hw : ∀ m ∈ d0.weights Tryz.prog 33, m ≤ reachBytes) : ∃ l, Seq cellE (fun b => b < W.heap.size) W (.slice a0 len0 cap0) l := by
  obtain ⟨fuel, hf⟩ := h0
  have hf' : DataW.trod enc Tryz.prog W 0 (fun _ => true) true fuel 33 [.slice a0 len0 cap0] = some (d0, p0) := by simpa [Value.cells] using hf
  exact cells_of_trod cellTys Tryz.underlying33 hf' hw


open Go.Deep
section
variable {H : Type} {enc : TypeId × Value → H} {P : Program} {w : World} {base : Nat} {held : Bool}
theorem ints_of_trod {t i : TypeId} (hi : P.underlying i = some (.int .i64)) (hc : P.cellsOf i = 1) (hby : 0 < P.bytesOf i) (ht : P.underlying t = some (.slice i))
    {fuel : Nat} {v : Value} {x : DataW H × List MemPlace} (h : DataW.trod enc P w base (fun _ => true) held fuel t [v] = some x) (hw : ∀ m ∈ x.1.weights P t, m ≤ reachBytes) :
    ∃ l, Seq intE (fun b => b < w.heap.size) w v l := by
  refine seq_of_trod intE ht hc hby (fun n cs x hl h hw => ?_) h hw
  match cs, hl with
  | [a], _ =>
    obtain ⟨k, hk, -, hwf⟩ := DataW.trod_int hi h
    simp only [List.cons.injEq, and_true] at hk
    subst hk
    have hb := bounds_i64 hwf
    exact ⟨k, rfl, by unfold IntOK; omega⟩
/-- A struct of a term and two rows of terms. -/
theorem ins_of_trod {q r e c i s : TypeId} (hc : CellTys P c i s) (he : P.underlying e = some (.slice c)) (hr : P.underlying r = some (.slice e)) (hse : P.cellsOf e = 1) (hsr : P.cellsOf r = 1) (hby : 0 < P.bytesOf e)
    (hq : ∃ f0 f1 f2 : Field, P.underlying q = some (.struct #[f0, f1, f2]) ∧ (f0.type = e ∧ f0.offset = 0) ∧ (f1.type = r ∧ f1.offset = 1) ∧ (f2.type = r ∧ f2.offset = 2))
    {fuel : Nat} {cs : List Value} {x : DataW H × List MemPlace} (hl : cs.length = 3) (h : DataW.trod enc P w base (fun _ => true) held fuel q cs = some x) (hw : ∀ m ∈ x.1.weights P q, m ≤ reachBytes) :
    ∃ y, instE.R (fun b => b < w.heap.size) w y cs := by
  obtain ⟨f0, f1, f2, hgs, h0, h1, h2⟩ := hq
  obtain ⟨y0, y1, y2, m, rfl, hlen, g0, g1, g2⟩ := trod_struct3 hgs h
  rw [h0.1, h0.2, hse] at g0
  rw [h1.1, h1.2, hsr] at g1
  rw [h2.1, h2.2, hsr] at g2
  match cs, hl with
  | [a, b, d], _ =>
    simp only [List.drop_zero, List.take_succ_cons, List.take_zero, List.drop_succ_cons] at g0 g1 g2
    simp only [DataW.weights, hgs, DataW.weightsEach, List.map_cons, List.map_nil, List.mem_append, h0.1, h1.1, h2.1] at hw
    obtain ⟨l, hl⟩ := cells_of_trod hc he g0 fun k hk => hw k (.inl hk)
    obtain ⟨l1, hl1⟩ := rows_of_trod hc he hr hse hby g1 fun k hk => hw k (.inr (.inl hk))
    obtain ⟨l2, hl2⟩ := rows_of_trod hc he hr hse hby g2 fun k hk => hw k (.inr (.inr (.inl hk)))
    exact ⟨⟨l, l1, l2⟩, a, b, d, rfl, hl, hl1, hl2⟩
/-- A struct of a number and two rows of numbers. -/
theorem rule_of_trod {q r i : TypeId} (hi : P.underlying i = some (.int .i64)) (hci : P.cellsOf i = 1) (hby : 0 < P.bytesOf i) (hr : P.underlying r = some (.slice i)) (hsr : P.cellsOf r = 1)
    (hq : ∃ f0 f1 f2 : Field, P.underlying q = some (.struct #[f0, f1, f2]) ∧ (f0.type = i ∧ f0.offset = 0) ∧ (f1.type = r ∧ f1.offset = 1) ∧ (f2.type = r ∧ f2.offset = 2))
    {fuel : Nat} {cs : List Value} {x : DataW H × List MemPlace} (hl : cs.length = 3) (h : DataW.trod enc P w base (fun _ => true) held fuel q cs = some x) (hw : ∀ m ∈ x.1.weights P q, m ≤ reachBytes) :
    ∃ y, ruleE.R (fun b => b < w.heap.size) w y cs := by
  obtain ⟨f0, f1, f2, hgs, h0, h1, h2⟩ := hq
  obtain ⟨y0, y1, y2, m, rfl, hlen, g0, g1, g2⟩ := trod_struct3 hgs h
  rw [h0.1, h0.2, hci] at g0
  rw [h1.1, h1.2, hsr] at g1
  rw [h2.1, h2.2, hsr] at g2
  match cs, hl with
  | [a, b, d], _ =>
    simp only [List.drop_zero, List.take_succ_cons, List.take_zero, List.drop_succ_cons] at g0 g1 g2
    simp only [DataW.weights, hgs, DataW.weightsEach, List.map_cons, List.map_nil, List.mem_append, h0.1, h1.1, h2.1] at hw
    obtain ⟨k, hk, -, hwf⟩ := DataW.trod_int hi g0
    simp only [List.cons.injEq, and_true] at hk
    subst hk
    have hb := bounds_i64 hwf
    obtain ⟨l1, hl1⟩ := ints_of_trod hi hci hby hr g1 fun k hk => hw k (.inr (.inl hk))
    obtain ⟨l2, hl2⟩ := ints_of_trod hi hci hby hr g2 fun k hk => hw k (.inr (.inr (.inl hk)))
    exact ⟨⟨k, l1, l2⟩, b, d, rfl, by unfold IntOK; show _ ∧ _; omega, hl1, hl2⟩
/-- A struct of rows of terms and of rules. -/
theorem prog_of_trod {q r e c i s R U I : TypeId} (hc : CellTys P c i s) (he : P.underlying e = some (.slice c)) (hr : P.underlying r = some (.slice e)) (hse : P.cellsOf e = 1) (hsr : P.cellsOf r = 1) (hby : 0 < P.bytesOf e) (hbi : 0 < P.bytesOf i)
    (hI : P.underlying I = some (.slice i)) (hsI : P.cellsOf I = 1) (hU : ∃ f0 f1 f2 : Field, P.underlying U = some (.struct #[f0, f1, f2]) ∧ (f0.type = i ∧ f0.offset = 0) ∧ (f1.type = I ∧ f1.offset = 1) ∧ (f2.type = I ∧ f2.offset = 2)) (hsU : P.cellsOf U = 3) (hbU : 0 < P.bytesOf U)
    (hRt : P.underlying R = some (.slice U)) (hsR : P.cellsOf R = 1) (hq : ∃ f0 f1 : Field, P.underlying q = some (.struct #[f0, f1]) ∧ (f0.type = r ∧ f0.offset = 0) ∧ (f1.type = R ∧ f1.offset = 1))
    {fuel : Nat} {cs : List Value} {x : DataW H × List MemPlace} (hl : cs.length = 2) (h : DataW.trod enc P w base (fun _ => true) held fuel q cs = some x) (hw : ∀ m ∈ x.1.weights P q, m ≤ reachBytes) :
    ∃ a d A D, cs = [a, d] ∧ Seq (seqE cellE) (fun b => b < w.heap.size) w a A ∧ Seq ruleE (fun b => b < w.heap.size) w d D := by
  obtain ⟨f0, f1, hgs, h0, h1⟩ := hq
  obtain ⟨y0, y1, m, rfl, hlen, g0, g1⟩ := trod_struct2 hgs h
  rw [h0.1, h0.2, hsr] at g0
  rw [h1.1, h1.2, hsR] at g1
  match cs, hl with
  | [a, d], _ =>
    simp only [List.drop_zero, List.take_succ_cons, List.take_zero, List.drop_succ_cons] at g0 g1
    simp only [DataW.weights, hgs, DataW.weightsEach, List.map_cons, List.map_nil, List.mem_append, h0.1, h1.1] at hw
    obtain ⟨A, hA⟩ := rows_of_trod hc he hr hse hby g0 fun k hk => hw k (.inl hk)
    obtain ⟨D, hD⟩ := seq_of_trod ruleE hRt hsU hbU (fun _ _ _ hl h hw => rule_of_trod hc.int hc.ci hbi hI hsI hU hl h hw) g1 fun k hk => hw k (.inr (.inl hk))
    exact ⟨a, d, A, D, rfl, hA, hD⟩
end
set_option maxRecDepth 100000 in
/-- Instances that have come in. -/
theorem insts_read {H : Type} {enc : TypeId × Value → H} {W : World} {a0 : Option Addr} {len0 cap0 : Nat} {d0 : DataW H} {p0 : List MemPlace} (h0 : DataW.Trod enc Tryz.prog W 0 (fun _ => true) true 22 (.slice a0 len0 cap0) d0 p0)
    (hw : ∀ m ∈ d0.weights Tryz.prog 22, m ≤ reachBytes) : ∃ l, Seq instE (fun b => b < W.heap.size) W (.slice a0 len0 cap0) l := by
  have hby : 0 < Tryz.prog.bytesOf 33 := by rw [show Tryz.prog.bytesOf 33 = 24 by kernel_rfl]; omega
  have hbi : 0 < Tryz.prog.bytesOf 41 := by rw [show Tryz.prog.bytesOf 41 = 72 by kernel_rfl]; omega
  obtain ⟨fuel, hf⟩ := h0
  have hf' : DataW.trod enc Tryz.prog W 0 (fun _ => true) true fuel 22 [.slice a0 len0 cap0] = some (d0, p0) := by simpa [Value.cells] using hf
  exact seq_of_trod instE Tryz.underlying22 (by kernel_rfl) hbi (fun _ _ _ hl h hw => ins_of_trod cellTys Tryz.underlying33 Tryz.underlying23 (by kernel_rfl) (by kernel_rfl) hby ⟨_, _, _, Tryz.underlying41, ⟨rfl, rfl⟩, ⟨rfl, rfl⟩, ⟨rfl, rfl⟩⟩ hl h hw) hf' hw
set_option maxRecDepth 100000 in
/-- A program that has come in. -/
theorem prog_read {H : Type} {enc : TypeId × Value → H} {W : World} {b0 : Nat} {v0 : Value} {d0 : DataW H} {p0 : List MemPlace} (hv : Value.okWide Tryz.prog W .any b0 26 v0) (h0 : DataW.Trod enc Tryz.prog W 0 (fun _ => true) true 26 v0 d0 p0)
    (hw : ∀ m ∈ d0.weights Tryz.prog 26, m ≤ reachBytes) : ∃ g, ProgV (fun b => b < W.heap.size) W v0 g := by
  have hby : 0 < Tryz.prog.bytesOf 33 := by rw [show Tryz.prog.bytesOf 33 = 24 by kernel_rfl]; omega
  have hbi : 0 < Tryz.prog.bytesOf 3 := by rw [show Tryz.prog.bytesOf 3 = 8 by kernel_rfl]; omega
  have hbU : 0 < Tryz.prog.bytesOf 46 := by rw [show Tryz.prog.bytesOf 46 = 56 by kernel_rfl]; omega
  obtain ⟨cs, rfl, hcs⟩ := okWide_struct Tryz.underlying26 hv
  obtain ⟨fuel, hf⟩ := h0
  have hf' : DataW.trod enc Tryz.prog W 0 (fun _ => true) true fuel 26 cs.toList = some (d0, p0) := by simpa [Value.cells] using hf
  have hl : cs.toList.length = 2 := by
    obtain ⟨y0, y1, m, -, hlen, -, -⟩ := trod_struct2 (f0 := _) (f1 := _) Tryz.underlying26 hf'
    rw [hlen]; kernel_rfl
  obtain ⟨a, d, A, D, he, h1, h2⟩ := prog_of_trod cellTys Tryz.underlying33 Tryz.underlying23 (by kernel_rfl) (by kernel_rfl) hby hbi Tryz.underlying36 (by kernel_rfl) ⟨_, _, _, Tryz.underlying46, ⟨rfl, rfl⟩, ⟨rfl, rfl⟩, ⟨rfl, rfl⟩⟩ (by kernel_rfl) hbU Tryz.underlying24 (by kernel_rfl) ⟨_, _, Tryz.underlying26, ⟨rfl, rfl⟩, ⟨rfl, rfl⟩⟩ hl hf' hw
  exact ⟨⟨A, D⟩, a, d, by rw [← he], h1, h2⟩
end Go.Proofs.YtaedgpcmkagpeaaGreat
