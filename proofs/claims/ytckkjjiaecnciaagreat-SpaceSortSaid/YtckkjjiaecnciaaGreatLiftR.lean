/-
  Arguments as they come in, as plain lists: terms, rows of terms, pairs of terms; the seat's closed facts that each lift asks.
-/
import Derived.Test.YtckkjjiaecnciaaGreatBaseC
import Derived.ProofKit
import Derived.OpenShut
import Derived.ChangeOld
import Derived.SizedLaws
import Derived.Deep.Slices
import Derived.Deep.Strs
import Derived.Below
import Derived.Test.YtckkjjiaecnciaaGreatSuC
import Derived.ChangeArms
import Derived.ChangeSame
namespace Go.Proofs.YtckkjjiaecnciaaGreat
open Go Go.RowKit Go.Deep Go.ChangeShapes Go.WideShapes Go.ChangeAt

theorem cell_lt {w : World} {a : Addr} {v : Value} (h : w.cell? a = some v) : a.block < w.heap.size := by
  unfold World.cell? at h
  rcases Nat.lt_or_ge a.block w.heap.size with hl | hg
  · exact hl
  · rw [Array.getElem?_eq_none hg] at h
    split at h
    · rename_i heq; cases heq
    · cases h

theorem weights_all {H : Type} {P : Program} {e : TypeId} : ∀ {l : List (DataW H)} {d : DataW H}, d ∈ l → ∀ m ∈ d.weights P e, m ∈ DataW.weightsAll P e l
  | [], _, h => by cases h
  | x :: l, d, h => by
    intro m hm
    simp only [DataW.weightsAll, List.mem_append]
    rcases List.mem_cons.1 h with rfl | h
    · exact .inl hm
    · exact .inr (weights_all h m hm)

section
variable {H : Type} {enc : TypeId × Value → H} {P : Program} {w : World} {base : Nat} {held : Bool}

/-- A slice that has come in is a list. -/
theorem seq_of_trod {α : Type} (E : Elt α) {t e : TypeId} (ht : P.underlying t = some (.slice e)) (hsz : P.cellsOf e = E.sz) (hby : 0 < P.bytesOf e)
    (hel : ∀ (n : Nat) (cs : List Value) (x : DataW H × List MemPlace), cs.length = E.sz → DataW.trod enc P w base (fun _ => true) held n e cs = some x → (∀ m ∈ x.1.weights P e, m ≤ reachBytes) → ∃ y, E.R (fun b => b < w.heap.size) w y cs)
    {fuel : Nat} {v : Value} {x : DataW H × List MemPlace} (h : DataW.trod enc P w base (fun _ => true) held fuel t [v] = some x) (hw : ∀ m ∈ x.1.weights P t, m ≤ reachBytes) :
    ∃ l, Seq E (fun b => b < w.heap.size) w v l := by
  rcases open_slice ht h with ⟨hcs, -⟩ | ⟨a, len, cap, m, n, D, Pl, hcs, hb, hl, hm, hmm, rfl, hx⟩
  · simp only [List.cons.injEq, and_true] at hcs
    subst hcs
    exact ⟨[], Seq.nil E _ w⟩
  · simp only [List.cons.injEq, and_true] at hcs
    subst hcs
    simp only [if_true] at hmm
    subst hmm
    have hall : ∀ i, i < len → ∃ y, ∃ cs, w.cells? base (a.add (i * P.cellsOf e)) (P.cellsOf e) = some cs ∧ E.R (fun b => b < w.heap.size) w y cs := by
      intro i hi
      obtain ⟨cs, h1, h2⟩ := hx i (by omega)
      obtain ⟨_, hlen, _⟩ := World.cells?_some h1
      have key : ∀ k ∈ (D i).weights P e, k ∈ (DataW.slice ((List.range len).map D) ((List.range (m - len)).map fun j => D (len + j))).weights P t := by
        intro k hk
        simp only [DataW.weights, ht, List.mem_cons, List.mem_append]
        exact .inr (.inl (weights_all (List.mem_map.2 ⟨i, List.mem_range.2 hi, rfl⟩) k hk))
      obtain ⟨y, hy⟩ := hel n cs _ (by rw [hlen, hsz]) h2 fun k hk => hw k (key k hk)
      exact ⟨y, cs, h1, hy⟩
    have hlen : len ≤ 140737488355328 := by
      have h1 := hw (((List.range len).map D).length * P.bytesOf e + ((List.range (m - len)).map fun j => D (len + j)).length * P.bytesOf e) (by
        simp only [DataW.weights, ht]
        rw [← Nat.add_mul]
        exact List.mem_cons_self)
      have h2 := reachBytes_lt
      rw [List.length_map, List.length_range] at h1
      have h3 : len * 1 ≤ len * P.bytesOf e := Nat.mul_le_mul_left _ hby
      omega
    have hlist : ∃ l : List α, l.length = len ∧ ∀ i y, l[i]? = some y → ∃ cs, w.cells? base (a.add (i * P.cellsOf e)) (P.cellsOf e) = some cs ∧ E.R (fun b => b < w.heap.size) w y cs := by
      clear hlen hw h hm hl hx
      induction len with
      | zero => exact ⟨[], rfl, fun i y h => by simp at h⟩
      | succ k ih =>
        obtain ⟨l, h1, h2⟩ := ih fun i hi => hall i (by omega)
        obtain ⟨y, cs, h3, h4⟩ := hall k (by omega)
        refine ⟨l ++ [y], by simp [h1], fun i z hz => ?_⟩
        rcases Nat.lt_or_ge i l.length with hi | hi
        · rw [List.getElem?_append_left hi] at hz
          exact h2 i z hz
        · rw [List.getElem?_append_right hi] at hz
          have hi0 : i - l.length = 0 := by
            rcases Nat.eq_zero_or_pos (i - l.length) with h0 | h0
            · exact h0
            · rw [List.getElem?_eq_none (by simp; omega)] at hz; cases hz
          rw [hi0] at hz
          simp only [List.getElem?_cons_zero, Option.some.injEq] at hz
          subst hz
          obtain rfl : i = k := by omega
          exact ⟨cs, h3, h4⟩
    obtain ⟨l, hl1, hl2⟩ := hlist
    refine ⟨l, some a, m, by rw [hl1], by omega, hm, by omega, (fun h => by cases h), fun k y hk => ?_⟩
    obtain ⟨cs, h1, h2⟩ := hl2 k y hk
    obtain ⟨hb', hlen', hc⟩ := World.cells?_some h1
    have hpos := E.pos
    have h0 := hc 0 (by omega)
    rw [List.getElem?_eq_getElem (by omega)] at h0
    obtain ⟨b, off, spot⟩ := a
    have hsp : spot = none := by
      obtain ⟨y0, hy0⟩ : ∃ y0, l[0]? = some y0 := ⟨_, List.getElem?_eq_getElem (by have := (List.getElem?_eq_some_iff.1 hk).1; omega)⟩
      obtain ⟨cs0, g1, g2⟩ := hl2 0 y0 hy0
      obtain ⟨_, hlen0, hc0⟩ := World.cells?_some g1
      have g0 := hc0 0 (by omega)
      rw [List.getElem?_eq_getElem (by omega)] at g0
      have := World.cell?_spot g0
      simpa [Addr.add] using this
    subst hsp
    have hlt := cell_lt h0
    rw [add_add, add_plain] at h0
    refine ⟨b, off, cs, rfl, ?_, ?_, h2, fun j hj => ?_⟩
    · rw [add_add, add_plain] at hlt; exact hlt
    · rw [add_add, add_plain] at hlt; exact hlt
    · have := hc j (by omega)
      rw [add_add, add_plain, hsz] at this
      exact this
end
end Go.Proofs.YtckkjjiaecnciaaGreat
namespace Go.Proofs.YtckkjjiaecnciaaGreat
open Go Go.RowKit Go.Deep Go.ChangeShapes Go.WideShapes Go.ChangeAt

section
variable {H : Type} {enc : TypeId × Value → H} {P : Program} {w : World} {base : Nat} {held : Bool}

/-- The types of cells. -/
structure CellTys (P : Program) (c i s : TypeId) : Prop where
  st : ∃ f0 f1 f2 : Field, P.underlying c = some (.struct #[f0, f1, f2]) ∧ (f0.type = i ∧ f0.offset = 0) ∧ (f1.type = s ∧ f1.offset = 1) ∧ (f2.type = i ∧ f2.offset = 2)
  int : P.underlying i = some (.int .i64)
  str : P.underlying s = some .string
  ci : P.cellsOf i = 1
  cs : P.cellsOf s = 1
  cc : P.cellsOf c = 3
  by0 : 0 < P.bytesOf c

theorem cells_of_trod {t c i s : TypeId} (hc : CellTys P c i s) (ht : P.underlying t = some (.slice c))
    {fuel : Nat} {v : Value} {x : DataW H × List MemPlace} (h : DataW.trod enc P w base (fun _ => true) held fuel t [v] = some x) (hw : ∀ m ∈ x.1.weights P t, m ≤ reachBytes) :
    ∃ l, Seq cellE (fun b => b < w.heap.size) w v l := by
  refine seq_of_trod cellE ht hc.cc hc.by0 (fun n cs x hl h hw => ?_) h hw
  obtain ⟨f0, f1, f2, he, h0, h1, h2⟩ := hc.st
  obtain ⟨y0, y1, y2, m, rfl, hlen, g0, g1, g2⟩ := trod_struct3 he h
  rw [h0.1, h0.2, hc.ci] at g0
  rw [h1.1, h1.2, hc.cs] at g1
  rw [h2.1, h2.2, hc.ci] at g2
  match cs, hl with
  | [a, b, d], _ =>
    simp only [List.drop_zero, List.take_succ_cons, List.take_zero, List.drop_succ_cons] at g0 g1 g2
    obtain ⟨k, hk, -, hwf⟩ := DataW.trod_int hc.int g0
    obtain ⟨q, hq, hqy, -⟩ := DataW.trod_string hc.str g1
    obtain ⟨n, hn, -, hwn⟩ := DataW.trod_int hc.int g2
    simp only [List.cons.injEq, and_true] at hk hq hn
    subst hk hq hn
    have hb := bounds_i64 hwf
    have hn := bounds_i64 hwn
    refine ⟨⟨k, q, n⟩, rfl, by unfold IntOK; omega, by unfold IntOK; omega, ?_⟩
    have hr := reachBytes_lt
    have hqw := hw q.data.toList.length (by
      simp only [DataW.weights, he, DataW.weightsEach, List.map_cons, List.map_nil, h0.1, h1.1, h2.1, hqy]
      simp)
    have : q.size = q.data.toList.length := (Array.length_toList (xs := q.data)).symm
    show q.size ≤ _
    omega

/-- A slice of slices of cells. -/
theorem rows_of_trod {t e c i s : TypeId} (hc : CellTys P c i s) (he : P.underlying e = some (.slice c)) (ht : P.underlying t = some (.slice e)) (hsz : P.cellsOf e = 1) (hby : 0 < P.bytesOf e)
    {fuel : Nat} {v : Value} {x : DataW H × List MemPlace} (h : DataW.trod enc P w base (fun _ => true) held fuel t [v] = some x) (hw : ∀ m ∈ x.1.weights P t, m ≤ reachBytes) :
    ∃ l, Seq (seqE cellE) (fun b => b < w.heap.size) w v l := by
  refine seq_of_trod (seqE cellE) ht hsz hby (fun n cs x hl h hw => ?_) h hw
  match cs, hl with
  | [a], _ =>
    obtain ⟨l, hl⟩ := cells_of_trod hc he h hw
    exact ⟨l, a, rfl, hl⟩

end
end Go.Proofs.YtckkjjiaecnciaaGreat
namespace Go.Proofs.YtckkjjiaecnciaaGreat
open Go Go.RowKit Go.ChangeShapes Go.WideShapes Go.ChangeAt

theorem own : ownKnob Tryz.prog.godebug = none := by kernel_rfl
theorem laidOut : laidOutB Tryz.prog = true := by kernel_rfl

theorem weights_of {H : Type} {P : Program} {ts : List TypeId} {ds : List (DataW H)} (h : (DataW.weightsEach P ts ds).all (· ≤ reachBytes) = true) {j : Nat} {t : TypeId} {d : DataW H} (ht : ts[j]? = some t) (hd : ds[j]? = some d) : ∀ m ∈ d.weights P t, m ≤ reachBytes := fun m hm => by
  simpa using List.all_eq_true.1 h m (DataW.weights_mem_each ht hd m hm)

theorem cellTys : CellTys Tryz.prog 51 3 9 where
  st := ⟨_, _, _, Tryz.underlying51, ⟨rfl, rfl⟩, ⟨rfl, rfl⟩, ⟨rfl, rfl⟩⟩
  int := Tryz.underlying3
  str := Tryz.underlying9
  ci := by kernel_rfl
  cs := by kernel_rfl
  cc := by kernel_rfl
  by0 := by rw [show Tryz.prog.bytesOf 51 = 32 by kernel_rfl]; omega

set_option maxRecDepth 100000 in
/-- Rows of terms that have come in. -/
theorem rows_in {H : Type} {enc : TypeId × Value → H} {W : World} {a0 : Option Addr} {len0 cap0 : Nat} {d0 : DataW H} {p0 : List MemPlace} (h0 : DataW.Trod enc Tryz.prog W 0 (fun _ => true) true 41 (.slice a0 len0 cap0) d0 p0)
    (hw : ∀ m ∈ d0.weights Tryz.prog 41, m ≤ reachBytes) : ∃ l, Seq (seqE cellE) (fun b => b < W.heap.size) W (.slice a0 len0 cap0) l := by
  have hby : 0 < Tryz.prog.bytesOf 23 := by rw [show Tryz.prog.bytesOf 23 = 24 by kernel_rfl]; omega
  obtain ⟨fuel, hf⟩ := h0
  have hf' : DataW.trod enc Tryz.prog W 0 (fun _ => true) true fuel 41 [.slice a0 len0 cap0] = some (d0, p0) := by simpa [Value.cells] using hf
  exact rows_of_trod cellTys Tryz.underlying23 Tryz.underlying41 (by kernel_rfl) hby hf' hw
set_option maxRecDepth 100000 in
/-- Terms that have come in. -/
theorem cells_read {H : Type} {enc : TypeId × Value → H} {W : World} {a0 : Option Addr} {len0 cap0 : Nat} {d0 : DataW H} {p0 : List MemPlace} (h0 : DataW.Trod enc Tryz.prog W 0 (fun _ => true) true 23 (.slice a0 len0 cap0) d0 p0)
    (hw : ∀ m ∈ d0.weights Tryz.prog 23, m ≤ reachBytes) : ∃ l, Seq cellE (fun b => b < W.heap.size) W (.slice a0 len0 cap0) l := by
  obtain ⟨fuel, hf⟩ := h0
  have hf' : DataW.trod enc Tryz.prog W 0 (fun _ => true) true fuel 23 [.slice a0 len0 cap0] = some (d0, p0) := by simpa [Value.cells] using hf
  exact cells_of_trod cellTys Tryz.underlying23 hf' hw


end Go.Proofs.YtckkjjiaecnciaaGreat
