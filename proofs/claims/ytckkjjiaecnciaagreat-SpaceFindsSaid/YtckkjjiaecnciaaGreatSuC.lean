/-
  Layer 2: bindings as lists; own, is, Place, In.
  Layer 2: the document's Same, put, Apply, Keep.
  Layer 2: the document's put, Apply, Keep.
-/
import Derived.Test.YtckkjjiaecnciaaGreatTmE
import Derived.Test.YtckkjjiaecnciaaGreatAppG
import Derived.StillTailTactics
namespace Go.Proofs.YtckkjjiaecnciaaGreat
section
open Go Go.RowKit

/-- A binding. -/
structure Bnd where
  var : Int
  t : List Cell
def bindE : Elt Bnd where
  sz := 2
  pos := by decide
  R := fun S w c cs => ∃ v, cs = [.int .i64 c.var, v] ∧ IntOK c.var ∧ Seq cellE S w v c.t
  len := by rintro _ _ _ _ ⟨v, rfl, _⟩; rfl
  one := by
    rintro _ _ _ _ ⟨v, rfl, _, ⟨ao, cap, rfl, _⟩⟩ u hu
    simp at hu; rcases hu with rfl | rfl <;> rfl
  mono := by
    rintro S T w w' xs _ ⟨v, rfl, h0, h⟩ hT hw
    exact ⟨v, rfl, h0, h.mono hT hw⟩
theorem SeqAt.bnd2 {S : Nat → Prop} {w : World} {ao : Option Addr} {xs : List Bnd} (h : SeqAt bindE S w ao xs) {k : Nat} (hk : k < xs.length) :
    ∃ b off ta tc, ao = some ⟨b, off, none⟩ ∧ S b ∧ b < w.heap.size ∧ w.cell? ⟨b, off + k * 2, none⟩ = some (.int .i64 xs[k].var) ∧
      w.cell? ⟨b, off + k * 2 + 1, none⟩ = some (.slice ta xs[k].t.length tc) ∧ IntOK xs[k].var ∧ Seq cellE S w (.slice ta xs[k].t.length tc) xs[k].t := by
  obtain ⟨b, off, cs, h1, h2, h3, ⟨v, rfl, h0, hv⟩, h5⟩ := h k _ (List.getElem?_eq_getElem hk)
  obtain ⟨ta, tc, rfl, _⟩ := id hv
  exact ⟨b, off, ta, tc, h1, h2, h3, h5 0 (by decide), h5 1 (by decide), h0, hv⟩

/-- Is a term just a variable? -/
def isV (n : Int) (t : List Cell) : Bool := match t with
  | [c] => decide (c.kind = 1) && decide (c.n = n)
  | _ => false
theorem isV_one (n : Int) (c : Cell) : isV n [c] = (decide (c.kind = 1) && decide (c.n = n)) := rfl
theorem isV_not {n : Int} {t : List Cell} (h : t.length ≠ 1) : isV n t = false := by
  match t, h with
  | [], _ => rfl
  | [_], h => exact absurd rfl h
  | _ :: _ :: _, _ => rfl


set_option maxHeartbeats 1600000 in
theorem is_spec {S : Nat → Prop} {w : World} {v : Value} {t : List Cell} {n : Int} (ht : Seq cellE S w v t) : Calls Tryz.prog 112 #[v, .int .i64 n] w (QuietV (.bool (isV n t)) w) := by
  obtain ⟨ao, cap, rfl, -, -, -, -, h5⟩ := ht
  go_enter Tryz.func112, Tryz.ntmps112
  by_cases hl : t.length = 1
  · obtain ⟨c, rfl⟩ := List.length_eq_one_iff.1 hl
    obtain ⟨b, off, rfl, -, hb, c0, c1, c2, -⟩ := h5.cell (k := 0) (by simp)
    simp only [List.getElem_cons_zero, Nat.zero_mul, Nat.add_zero] at c0 c1 c2
    rw [isV_one]
    clear h5 hl
    by_cases h1 : c.kind = 1
    · by_cases h2 : c.n = n
      · go_wp2_with fail
        go_ret
        exact ⟨ret_bool (by simp [h1, h2]), Drew.refl _⟩
      · go_wp2_with fail
        go_ret
        exact ⟨ret_bool (by simp [h1, h2]), Drew.refl _⟩
    · go_wp2_with fail
      go_ret
      exact ⟨ret_bool (by simp [h1]), Drew.refl _⟩
  · rw [isV_not hl]
    have hl' : ¬ (t.length : Int) = 1 := by omega
    clear h5
    go_wp2_with fail
    go_ret
    exact ⟨ret_bool (by simp), Drew.refl _⟩

/-- What a variable is bound to. -/
def bindS (s : List Bnd) (v : Int) : Option (List Cell) := (s.find? fun b => decide (b.var = v)).map (·.t)
/-- The place of its binding. -/
def placeS (s : List Bnd) (v : Int) : Int := match s.findIdx? (fun b => decide (b.var = v)) with
  | some k => (k : Int)
  | none => -1
theorem placeS_at {s : List Bnd} {v : Int} {k : Nat} (hk : k < s.length) (he : s[k].var = v) (hno : ∀ i (h : i < s.length), i < k → s[i].var ≠ v) : placeS s v = k ∧ bindS s v = some s[k].t := by
  constructor
  · unfold placeS
    rw [List.findIdx?_eq_some_iff_getElem.2 ⟨hk, by simpa using he, fun j hj => by simpa using hno j (by omega) hj⟩]
  · unfold bindS
    rw [List.find?_eq_some_iff_getElem.2 ⟨by simpa using he, k, hk, rfl, fun j hj => by simpa using hno j (by omega) hj⟩]; rfl
theorem placeS_none {s : List Bnd} {v : Int} (hno : ∀ i (h : i < s.length), s[i].var ≠ v) : placeS s v = -1 ∧ bindS s v = none := by
  have h : ∀ b ∈ s, ¬ (decide (b.var = v)) = true := fun b hb => by
    obtain ⟨i, hi, rfl⟩ := List.mem_iff_getElem.1 hb
    simpa using hno i hi
  constructor
  · unfold placeS
    rw [List.findIdx?_eq_none_iff.2 fun b hb => by simpa using h b hb]
  · unfold bindS
    rw [List.find?_eq_none.2 h]; rfl
theorem placeS_cases (s : List Bnd) (v : Int) : (placeS s v = -1 ∧ bindS s v = none) ∨ ∃ k, ∃ h : k < s.length, placeS s v = k ∧ s[k].var = v ∧ bindS s v = some s[k].t := by
  rcases hf : s.findIdx? (fun b => decide (b.var = v)) with _ | k
  · refine .inl (placeS_none fun i hi e => ?_)
    have := List.findIdx?_eq_none_iff.1 hf s[i] (List.getElem_mem hi)
    simp [e] at this
  · obtain ⟨h1, h2, h3⟩ := List.findIdx?_eq_some_iff_getElem.1 hf
    have he : s[k].var = v := by simpa using h2
    have := placeS_at h1 he (fun i hi hlt => by simpa using h3 i hlt)
    exact .inr ⟨k, h1, this.1, he, this.2⟩



def fewS (s : List Bnd) : Bool := s.all (fun b => decide (b.t.length ≤ 300)) && decide (s.length ≤ 30)

end
section
open Go Go.RowKit

instance : DecidableEq Bnd := fun a b => decidable_of_iff (a.var = b.var ∧ a.t = b.t) (by cases a; cases b; simp)
theorem bnd_eq {a b : Bnd} : a = b ↔ a.var = b.var ∧ a.t = b.t := by cases a; cases b; simp

theorem infoCellS : (Tryz.prog.info? 51).map (fun i => (i.zero, i.size, i.bytes)) = some (some (.agg #[.int .i64 0, .string ⟨#[]⟩, .int .i64 0]), 3, 32) := by kernel_rfl
theorem infoBindS : (Tryz.prog.info? 88).map (fun i => (i.zero, i.size, i.bytes)) = some (some (.agg #[.int .i64 0, .slice none 0 0]), 2, 32) := by kernel_rfl
section
variable {P : Program} {ops : Array Oper} {rest : List Oper} {o : Oper} {a : Act} {Q : Exit → Act → World → Prop}
theorem wpList_app_cellS {S : Nat → Prop} {w : World} (hgd : o.guard = none) (s x : Operand) (t : TypeId)
    (ho : o.op = .call { callee := .builtin .append, args := #[s, x], argTypes := #[t, t] })
    {base : Nat} {e : TypeId} (ht : P.underlying t = some (.slice e)) (hi : (P.info? e).map (fun i => (i.zero, i.size, i.bytes)) = some (some (.agg #[.int .i64 0, .string ⟨#[]⟩, .int .i64 0]), 3, 32))
    {v : Value} {xs : List Cell} (hs : a.eval s = v) (hown : Own cellE S base e w v xs) {B c : Nat} (hx : a.eval x = .slice (some ⟨B, 0, none⟩) 1 c)
    {y : Cell} (h1 : IntOK y.kind) (h2 : IntOK y.n) (h3 : y.name.size ≤ 140737488355328)
    (hc0 : w.cell? ⟨B, 0, none⟩ = some (.int .i64 y.kind)) (hc1 : w.cell? ⟨B, 1, none⟩ = some (.string y.name)) (hc2 : w.cell? ⟨B, 2, none⟩ = some (.int .i64 y.n)) (hbytes : xs.length ≤ 1000000000000) (hbase : base ≤ w.heap.size)
    (h : ∀ ao cap w', Own cellE S base e w' (.slice ao (xs.length + 1) cap) (xs ++ [y]) → KeptW base w w' v (.slice ao (xs.length + 1) cap) → wpList P ops Q rest (a.put o.dst (.slice ao (xs.length + 1) cap)) w') : wpList P ops Q (o :: rest) a w :=
  wpList_app1W (E := cellE) (Sy := fun _ => False) (y := y) (cs := [.int .i64 y.kind, .string y.name, .int .i64 y.n]) hgd s x t ho ht hi rfl hs hown _ _ hx ⟨rfl, h1, h2, h3⟩ (fun _ h => h.elim)
    (by
      intro j hj
      have h3 : j < 3 := hj
      rcases (show j = 0 ∨ j = 1 ∨ j = 2 by omega) with rfl | rfl | rfl
      · exact hc0
      · exact hc1
      · exact hc2) (by omega) (by simp only [maxLen]; omega) hbase h
theorem wpList_app_bindS {S Sy : Nat → Prop} {w : World} (hgd : o.guard = none) (s x : Operand) (t : TypeId)
    (ho : o.op = .call { callee := .builtin .append, args := #[s, x], argTypes := #[t, t] })
    {base : Nat} {e : TypeId} (ht : P.underlying t = some (.slice e)) (hi : (P.info? e).map (fun i => (i.zero, i.size, i.bytes)) = some (some (.agg #[.int .i64 0, .slice none 0 0]), 2, 32))
    {v : Value} {xs : List Bnd} (hs : a.eval s = v) (hown : Own bindE S base e w v xs) {B c : Nat} (hx : a.eval x = .slice (some ⟨B, 0, none⟩) 1 c)
    {y : Bnd} {vt : Value} (hok : IntOK y.var) (hy : Seq cellE Sy w vt y.t) (hS : ∀ b, Sy b → b < w.heap.size → S b ∧ v.ownBlock ≠ some b)
    (hc0 : w.cell? ⟨B, 0, none⟩ = some (.int .i64 y.var)) (hc1 : w.cell? ⟨B, 1, none⟩ = some vt) (hbytes : xs.length ≤ 1000000000000) (hbase : base ≤ w.heap.size)
    (h : ∀ ao cap w', Own bindE S base e w' (.slice ao (xs.length + 1) cap) (xs ++ [y]) → KeptW base w w' v (.slice ao (xs.length + 1) cap) → wpList P ops Q rest (a.put o.dst (.slice ao (xs.length + 1) cap)) w') : wpList P ops Q (o :: rest) a w :=
  wpList_app1W (E := bindE) (Sy := Sy) (y := y) (cs := [.int .i64 y.var, vt]) hgd s x t ho ht hi rfl hs hown _ _ hx ⟨vt, rfl, hok, hy⟩ hS
    (by
      intro j hj
      have h3 : j < 2 := hj
      rcases (show j = 0 ∨ j = 1 by omega) with rfl | rfl
      · exact hc0
      · exact hc1) (by omega) (by simp only [maxLen]; omega) hbase h
end
theorem own_cellS {S T : Nat → Prop} {base : Nat} {e : TypeId} {w : World} {v : Value} {xs : List Cell} (h : Own cellE S base e w v xs) : Own cellE T base e w v xs := by
  obtain ⟨vs, h1, h2⟩ := h
  exact ⟨vs, h1, fun k x hx => h2 k x hx⟩

/-! ### Same -/
theorem sameS_succ {a b : List Bnd} {k : Nat} (h : ∀ j, j < k → a[j]? = b[j]?) (ha : k < a.length) (hb : k < b.length) (he : a[k] = b[k]) : ∀ j, j < k + 1 → a[j]? = b[j]? := fun j hj => by
  by_cases e : j = k
  · subst e; rw [List.getElem?_eq_getElem ha, List.getElem?_eq_getElem hb, he]
  · exact h j (by omega)
theorem sameS_all {a b : List Bnd} (h : ∀ j, j < a.length → a[j]? = b[j]?) (hl : a.length = b.length) : a = b := List.ext_getElem? fun j => by
  by_cases hj : j < a.length
  · exact h j hj
  · rw [List.getElem?_eq_none (by omega), List.getElem?_eq_none (by omega)]


/-! ### put, Apply -/
def lookS (s : List Bnd) (c : Cell) : List Cell := if c.kind = 1 then (bindS s c.n).getD [c] else [c]
def putT (s : List Bnd) (t : List Cell) : List Cell := t.flatMap (lookS s)
theorem putT_snoc {s : List Bnd} {t : List Cell} {k : Nat} (hk : k < t.length) : putT s (t.take (k + 1)) = putT s (t.take k) ++ lookS s t[k] := by
  unfold putT
  rw [List.take_succ_eq_append_getElem hk, List.flatMap_append]; simp
theorem bindS_mem {s : List Bnd} {v : Int} {t : List Cell} (h : bindS s v = some t) : ∃ b ∈ s, b.var = v ∧ b.t = t := by
  unfold bindS at h
  cases hf : s.find? (fun b => decide (b.var = v)) with
  | none => rw [hf] at h; cases h
  | some b =>
    rw [hf] at h
    simp only [Option.map_some, Option.some.injEq] at h
    exact ⟨b, List.mem_of_find?_eq_some hf, by simpa using List.find?_some hf, h⟩
theorem lookS_len {s : List Bnd} {c : Cell} {m : Nat} (hs : ∀ b ∈ s, b.t.length ≤ m) (hm : 1 ≤ m) : (lookS s c).length ≤ m := by
  unfold lookS
  split
  · cases hb : bindS s c.n with
    | none => simpa using hm
    | some t =>
      obtain ⟨b, hb1, -, rfl⟩ := bindS_mem hb
      exact hs b hb1
  · simpa using hm
theorem putT_len {s : List Bnd} {m : Nat} (hs : ∀ b ∈ s, b.t.length ≤ m) (hm : 1 ≤ m) : ∀ t : List Cell, (putT s t).length ≤ t.length * m
  | [] => by simp [putT]
  | c :: t => by
    have h1 := putT_len hs hm t
    have h2 := lookS_len (c := c) hs hm
    have e : putT s (c :: t) = lookS s c ++ putT s t := rfl
    rw [e, List.length_append, List.length_cons, Nat.add_mul]
    omega
end
section
open Go Go.RowKit

theorem putT_step {s : List Bnd} {t : List Cell} {k : Nat} (hk : k < t.length) :
    (t[k].kind = 1 → placeS s t[k].n = -1 → putT s (t.take (k + 1)) = putT s (t.take k) ++ [t[k]]) ∧
    (t[k].kind ≠ 1 → putT s (t.take (k + 1)) = putT s (t.take k) ++ [t[k]]) ∧
    (t[k].kind = 1 → ∀ i (h : i < s.length), placeS s t[k].n = i → putT s (t.take (k + 1)) = putT s (t.take k) ++ s[i].t) := by
  have h0 := putT_snoc (s := s) hk
  refine ⟨fun h1 h2 => ?_, fun h1 => ?_, fun h1 i hi h2 => ?_⟩
  · rw [h0]
    unfold lookS
    rw [if_pos h1]
    rcases placeS_cases s t[k].n with ⟨-, h⟩ | ⟨j, hj, h, -, -⟩
    · rw [h]; rfl
    · omega
  · rw [h0]
    unfold lookS
    rw [if_neg h1]
  · rw [h0]
    unfold lookS
    rw [if_pos h1]
    rcases placeS_cases s t[k].n with ⟨h, -⟩ | ⟨j, hj, h, -, h3⟩
    · omega
    · obtain rfl : i = j := by omega
      rw [h3]; rfl


/-- What is put in, if it is not too long. -/
def appO (s : List Bnd) (t : List Cell) : Option (List Cell) := if (putT s t).length ≤ 200 then some (putT s t) else none
def appL (o : Option (List Cell)) : List Cell := o.getD []
def RetL {α : Type} (E : Elt α) (S : Nat → Prop) (o : Option (List α)) (w : World) (e : Ending) (w' : World) : Prop :=
  ∃ v, e = .returned (.tuple #[v, .bool o.isSome]) ∧ Below w.heap.size w w' ∧ Seq E S w' v (o.getD [])


/-! ### Keep -/
def keepS (s : List Bnd) (l : List Int) : List Bnd := fltL (fun b => decide (b.var ∈ l)) s
theorem keepS_len (s : List Bnd) (l : List Int) : (keepS s l).length ≤ s.length := fltL_len _ _


end
end Go.Proofs.YtckkjjiaecnciaaGreat
