/-
  Arguments as they come in, as plain lists: terms, rows of terms, changes, bases, acts (for whatever seat's types).
-/
import Derived.Test.YteefdmpaclnaiaaOpen
import Derived.Test.YteefdmpaclnaiaaTnA
import Derived.ChangeArms
import Derived.ChangeSame
namespace Go.Proofs.Yteefdmpaclnaiaa
open Go Go.RowKit Go.Deep Go.ChangeShapes Go.WideShapes Go.ChangeAt

/-- An act: what is done, and a change. -/
structure ActT where
  d : Int
  c : Chg
def actE : Elt ActT where
  sz := 3
  pos := by decide
  R := fun S w x cs => ∃ v, cs = [.int .u8 x.d, .bool x.c.add, v] ∧ Seq cellE S w v x.c.t
  len := by rintro _ _ _ _ ⟨v, rfl, _⟩; rfl
  one := by
    rintro _ _ _ _ ⟨v, rfl, ⟨ao, cap, rfl, _⟩⟩ u hu
    simp at hu; rcases hu with rfl | rfl | rfl <;> rfl
  mono := by
    rintro S T w w' xs _ ⟨v, rfl, h⟩ hT hw
    exact ⟨v, rfl, h.mono hT hw⟩

section
variable {H : Type} {enc : TypeId × Value → H} {P : Program} {w : World} {base : Nat} {held : Bool}

/-- The types of cells. -/
structure CellTys (P : Program) (c i s : TypeId) : Prop where
  st : ∃ f0 f1 f2 : Field, P.underlying c = some (.struct #[f0, f1, f2]) ∧ (f0.type = i ∧ f0.offset = 0) ∧ (f1.type = s ∧ f1.offset = 1) ∧ (f2.type = i ∧ f2.offset = 2)
  int : P.underlying i = some (.int .i64)
  str : P.underlying s = some .string
  ci : P.cellsOf i = 1
  cs : P.cellsOf s = 1
  cc : P.cellsOf c = 3
  by0 : 0 < P.bytesOf c

theorem cells_of_trod {t c i s : TypeId} (hc : CellTys P c i s) (ht : P.underlying t = some (.slice c))
    {fuel : Nat} {v : Value} {x : DataW H × List MemPlace} (h : DataW.trod enc P w base (fun _ => true) held fuel t [v] = some x) (hw : ∀ m ∈ x.1.weights P t, m ≤ reachBytes) :
    ∃ l, Seq cellE (fun b => b < w.heap.size) w v l := by
  refine seq_of_trod cellE ht hc.cc hc.by0 (fun n cs x hl h hw => ?_) h hw
  obtain ⟨f0, f1, f2, he, h0, h1, h2⟩ := hc.st
  obtain ⟨y0, y1, y2, m, rfl, hlen, g0, g1, g2⟩ := trod_struct3 he h
  rw [h0.1, h0.2, hc.ci] at g0
  rw [h1.1, h1.2, hc.cs] at g1
  rw [h2.1, h2.2, hc.ci] at g2
  match cs, hl with
  | [a, b, d], _ =>
    simp only [List.drop_zero, List.take_succ_cons, List.take_zero, List.drop_succ_cons] at g0 g1 g2
    obtain ⟨k, hk, -, hwf⟩ := DataW.trod_int hc.int g0
    obtain ⟨q, hq, hqy, -⟩ := DataW.trod_string hc.str g1
    obtain ⟨n, hn, -, hwn⟩ := DataW.trod_int hc.int g2
    simp only [List.cons.injEq, and_true] at hk hq hn
    subst hk hq hn
    have hb := bounds_i64 hwf
    have hn := bounds_i64 hwn
    refine ⟨⟨k, q, n⟩, rfl, by unfold IntOK; omega, by unfold IntOK; omega, ?_⟩
    have hr := reachBytes_lt
    have hqw := hw q.data.toList.length (by
      simp only [DataW.weights, he, DataW.weightsEach, List.map_cons, List.map_nil, h0.1, h1.1, h2.1, hqy]
      simp)
    have : q.size = q.data.toList.length := (Array.length_toList (xs := q.data)).symm
    show q.size ≤ _
    omega

/-- A slice of slices of cells. -/
theorem rows_of_trod {t e c i s : TypeId} (hc : CellTys P c i s) (he : P.underlying e = some (.slice c)) (ht : P.underlying t = some (.slice e)) (hsz : P.cellsOf e = 1) (hby : 0 < P.bytesOf e)
    {fuel : Nat} {v : Value} {x : DataW H × List MemPlace} (h : DataW.trod enc P w base (fun _ => true) held fuel t [v] = some x) (hw : ∀ m ∈ x.1.weights P t, m ≤ reachBytes) :
    ∃ l, Seq (seqE cellE) (fun b => b < w.heap.size) w v l := by
  refine seq_of_trod (seqE cellE) ht hsz hby (fun n cs x hl h hw => ?_) h hw
  match cs, hl with
  | [a], _ =>
    obtain ⟨l, hl⟩ := cells_of_trod hc he h hw
    exact ⟨l, a, rfl, hl⟩

/-- The types of changes. -/
structure ChgTys (P : Program) (g b e : TypeId) : Prop where
  st : ∃ f0 f1 : Field, P.underlying g = some (.struct #[f0, f1]) ∧ (f0.type = b ∧ f0.offset = 0) ∧ (f1.type = e ∧ f1.offset = 1)
  bool : P.underlying b = some .bool
  sb : P.cellsOf b = 1
  se : P.cellsOf e = 1
  sg : P.cellsOf g = 2
  by0 : 0 < P.bytesOf g

theorem chg_of_trod {g b e c i s : TypeId} (hc : CellTys P c i s) (he : P.underlying e = some (.slice c)) (hg : ChgTys P g b e)
    {fuel : Nat} {cs : List Value} {x : DataW H × List MemPlace} (h : DataW.trod enc P w base (fun _ => true) held fuel g cs = some x) (hl : cs.length = 2) (hw : ∀ m ∈ x.1.weights P g, m ≤ reachBytes) :
    ∃ c : Chg, ∃ v, cs = [.bool c.add, v] ∧ Seq cellE (fun b => b < w.heap.size) w v c.t := by
  obtain ⟨f0, f1, hgs, h0, h1⟩ := hg.st
  obtain ⟨y0, y1, m, rfl, hlen, g0, g1⟩ := trod_struct2 hgs h
  rw [h0.1, h0.2, hg.sb] at g0
  rw [h1.1, h1.2, hg.se] at g1
  match cs, hl with
  | [a, d], _ =>
    simp only [List.drop_zero, List.take_succ_cons, List.take_zero, List.drop_succ_cons] at g0 g1
    obtain ⟨k, hk, -⟩ := DataW.trod_bool hg.bool g0
    simp only [List.cons.injEq, and_true] at hk
    subst hk
    simp only [DataW.weights, hgs, DataW.weightsEach, List.map_cons, List.map_nil, List.mem_append, h0.1, h1.1] at hw
    obtain ⟨l, hl⟩ := cells_of_trod hc he g1 fun k hk => hw k (.inr (.inl hk))
    exact ⟨⟨k, l⟩, d, rfl, hl⟩

theorem changes_of_trod {t g b e c i s : TypeId} (hc : CellTys P c i s) (he : P.underlying e = some (.slice c)) (hg : ChgTys P g b e) (ht : P.underlying t = some (.slice g))
    {fuel : Nat} {v : Value} {x : DataW H × List MemPlace} (h : DataW.trod enc P w base (fun _ => true) held fuel t [v] = some x) (hw : ∀ m ∈ x.1.weights P t, m ≤ reachBytes) :
    ∃ l, Seq changeE (fun b => b < w.heap.size) w v l := by
  refine seq_of_trod changeE ht hg.sg hg.by0 (fun n cs x hl h hw => ?_) h hw
  exact chg_of_trod hc he hg h hl hw

/-- A slice of acts. -/
theorem acts_of_trod {t a u g b e c i s : TypeId} (hc : CellTys P c i s) (he : P.underlying e = some (.slice c)) (hg : ChgTys P g b e) (ht : P.underlying t = some (.slice a))
    (ha : ∃ f0 f1 : Field, P.underlying a = some (.struct #[f0, f1]) ∧ (f0.type = u ∧ f0.offset = 0) ∧ (f1.type = g ∧ f1.offset = 1)) (hu : P.underlying u = some (.int .u8)) (hsu : P.cellsOf u = 1) (hsa : P.cellsOf a = 3) (hby : 0 < P.bytesOf a)
    {fuel : Nat} {v : Value} {x : DataW H × List MemPlace} (h : DataW.trod enc P w base (fun _ => true) held fuel t [v] = some x) (hw : ∀ m ∈ x.1.weights P t, m ≤ reachBytes) :
    ∃ l, Seq actE (fun b => b < w.heap.size) w v l := by
  refine seq_of_trod actE ht hsa hby (fun n cs x hl h hw => ?_) h hw
  obtain ⟨f0, f1, has, h0, h1⟩ := ha
  obtain ⟨y0, y1, m, rfl, hlen, g0, g1⟩ := trod_struct2 has h
  rw [h0.1, h0.2, hsu] at g0
  rw [h1.1, h1.2, hg.sg] at g1
  match cs, hl with
  | [p, q, d], _ =>
    simp only [List.drop_zero, List.take_succ_cons, List.take_zero, List.drop_succ_cons] at g0 g1
    obtain ⟨k, hk, -⟩ := DataW.trod_int hu g0
    simp only [List.cons.injEq, and_true] at hk
    subst hk
    simp only [DataW.weights, has, DataW.weightsEach, List.map_cons, List.map_nil, List.mem_append, h0.1, h1.1] at hw
    obtain ⟨c, v, e, hv⟩ := chg_of_trod hc he hg g1 rfl fun k hk => hw k (.inr (.inl hk))
    exact ⟨⟨k, c⟩, v, by rw [e], hv⟩

/-- A base. -/
theorem base_of_trod {t r k g b e c i s : TypeId} (hc : CellTys P c i s) (he : P.underlying e = some (.slice c)) (hg : ChgTys P g b e) (hse : P.cellsOf e = 1) (hbe : 0 < P.bytesOf e)
    (hr : P.underlying r = some (.slice e)) (hk : P.underlying k = some (.slice g)) (hsr : P.cellsOf r = 1) (hsk : P.cellsOf k = 1)
    (ht : ∃ f0 f1 f2 f3 : Field, P.underlying t = some (.struct #[f0, f1, f2, f3]) ∧ (f0.type = r ∧ f0.offset = 0) ∧ (f1.type = i ∧ f1.offset = 1) ∧ (f2.type = b ∧ f2.offset = 2) ∧ (f3.type = k ∧ f3.offset = 3)) (hst : P.cellsOf t = 4)
    {fuel : Nat} {cs : List Value} {x : DataW H × List MemPlace} (h : DataW.trod enc P w base (fun _ => true) held fuel t cs = some x) (hw : ∀ m ∈ x.1.weights P t, m ≤ reachBytes) :
    ∃ b : Bas, BasV (fun b => b < w.heap.size) w (.agg cs.toArray) b := by
  obtain ⟨f0, f1, f2, f3, hts, h0, h1, h2, h3⟩ := ht
  obtain ⟨xs, m, -, rfl, hxl, hlen, hf⟩ := DataW.trod_struct hts h
  match xs, hlen with
  | [y0, y1, y2, y3], _ =>
    have g0 := by simpa using hf 0 f0 rfl
    have g1 := by simpa using hf 1 f1 rfl
    have g2 := by simpa using hf 2 f2 rfl
    have g3 := by simpa using hf 3 f3 rfl
    rw [h0.1, h0.2, hsr] at g0
    rw [h1.1, h1.2, hc.ci] at g1
    rw [h2.1, h2.2, hg.sb] at g2
    rw [h3.1, h3.2, hsk] at g3
    rw [hst] at hxl
    match cs, hxl with
    | [p0, p1, p2, p3], _ =>
      simp only [List.drop_zero, List.take_succ_cons, List.take_zero, List.drop_succ_cons] at g0 g1 g2 g3
      obtain ⟨k, hk1, -, hwf⟩ := DataW.trod_int hc.int g1
      obtain ⟨o, ho, -⟩ := DataW.trod_bool hg.bool g2
      simp only [List.cons.injEq, and_true] at hk1 ho
      subst hk1 ho
      have hbk := bounds_i64 hwf
      simp only [DataW.weights, hts, DataW.weightsEach, List.map_cons, List.map_nil, List.mem_append, h0.1, h1.1, h2.1, h3.1] at hw
      obtain ⟨F, hF⟩ := rows_of_trod hc he hr hse hbe g0 fun k hk => hw k (.inl hk)
      obtain ⟨L, hL⟩ := changes_of_trod hc he hg hk g3 fun k hk => hw k (.inr (.inr (.inr (.inl hk))))
      obtain ⟨fa, fc, rfl, -⟩ := id hF
      obtain ⟨ta, tc, rfl, -⟩ := id hL
      exact ⟨⟨F, k, o, L⟩, fa, fc, ta, tc, rfl, by unfold IntOK; omega, hF, hL⟩
end
end Go.Proofs.Yteefdmpaclnaiaa
