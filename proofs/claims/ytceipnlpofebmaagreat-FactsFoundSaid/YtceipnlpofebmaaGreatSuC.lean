/-
  Layer 2: bindings as lists; own, is, Place, In.
  Layer 2: the document's Same, put, Apply, Keep.
  Layer 2: the document's put, Apply, Keep.
-/
import Derived.Test.YtceipnlpofebmaaGreatTmE
import Derived.Test.YtceipnlpofebmaaGreatAppW
import Derived.StillTailTactics
namespace Go.Proofs.YtceipnlpofebmaaGreat
section
open Go Go.RowKit

/-- A binding. -/
structure Bnd where
  var : Int
  t : List Cell
def bindE : Elt Bnd where
  sz := 2
  pos := by decide
  R := fun S w c cs => ∃ v, cs = [.int .i64 c.var, v] ∧ IntOK c.var ∧ Seq cellE S w v c.t
  len := by rintro _ _ _ _ ⟨v, rfl, _⟩; rfl
  one := by
    rintro _ _ _ _ ⟨v, rfl, _, ⟨ao, cap, rfl, _⟩⟩ u hu
    simp at hu; rcases hu with rfl | rfl <;> rfl
  mono := by
    rintro S T w w' xs _ ⟨v, rfl, h0, h⟩ hT hw
    exact ⟨v, rfl, h0, h.mono hT hw⟩
theorem SeqAt.bnd2 {S : Nat → Prop} {w : World} {ao : Option Addr} {xs : List Bnd} (h : SeqAt bindE S w ao xs) {k : Nat} (hk : k < xs.length) :
    ∃ b off ta tc, ao = some ⟨b, off, none⟩ ∧ S b ∧ b < w.heap.size ∧ w.cell? ⟨b, off + k * 2, none⟩ = some (.int .i64 xs[k].var) ∧
      w.cell? ⟨b, off + k * 2 + 1, none⟩ = some (.slice ta xs[k].t.length tc) ∧ IntOK xs[k].var ∧ Seq cellE S w (.slice ta xs[k].t.length tc) xs[k].t := by
  obtain ⟨b, off, cs, h1, h2, h3, ⟨v, rfl, h0, hv⟩, h5⟩ := h k _ (List.getElem?_eq_getElem hk)
  obtain ⟨ta, tc, rfl, _⟩ := id hv
  exact ⟨b, off, ta, tc, h1, h2, h3, h5 0 (by decide), h5 1 (by decide), h0, hv⟩

/-- Is a term just a variable? -/
def isV (n : Int) (t : List Cell) : Bool := match t with
  | [c] => decide (c.kind = 1) && decide (c.n = n)
  | _ => false
theorem isV_one (n : Int) (c : Cell) : isV n [c] = (decide (c.kind = 1) && decide (c.n = n)) := rfl
theorem isV_not {n : Int} {t : List Cell} (h : t.length ≠ 1) : isV n t = false := by
  match t, h with
  | [], _ => rfl
  | [_], h => exact absurd rfl h
  | _ :: _ :: _, _ => rfl


set_option maxHeartbeats 1600000 in
theorem is_spec {S : Nat → Prop} {w : World} {v : Value} {t : List Cell} {n : Int} (ht : Seq cellE S w v t) : Calls Tryz.prog 98 #[v, .int .i64 n] w (QuietV (.bool (isV n t)) w) := by
  obtain ⟨ao, cap, rfl, -, -, -, -, h5⟩ := ht
  go_enter Tryz.func98, Tryz.ntmps98
  by_cases hl : t.length = 1
  · obtain ⟨c, rfl⟩ := List.length_eq_one_iff.1 hl
    obtain ⟨b, off, rfl, -, hb, c0, c1, c2, -⟩ := h5.cell (k := 0) (by simp)
    simp only [List.getElem_cons_zero, Nat.zero_mul, Nat.add_zero] at c0 c1 c2
    rw [isV_one]
    clear h5 hl
    by_cases h1 : c.kind = 1
    · by_cases h2 : c.n = n
      · go_wp2_with fail
        go_ret
        exact ⟨ret_bool (by simp [h1, h2]), Drew.refl _⟩
      · go_wp2_with fail
        go_ret
        exact ⟨ret_bool (by simp [h1, h2]), Drew.refl _⟩
    · go_wp2_with fail
      go_ret
      exact ⟨ret_bool (by simp [h1]), Drew.refl _⟩
  · rw [isV_not hl]
    have hl' : ¬ (t.length : Int) = 1 := by omega
    clear h5
    go_wp2_with fail
    go_ret
    exact ⟨ret_bool (by simp), Drew.refl _⟩

/-- What a variable is bound to. -/
def bindS (s : List Bnd) (v : Int) : Option (List Cell) := (s.find? fun b => decide (b.var = v)).map (·.t)
/-- The place of its binding. -/
def placeS (s : List Bnd) (v : Int) : Int := match s.findIdx? (fun b => decide (b.var = v)) with
  | some k => (k : Int)
  | none => -1
theorem placeS_at {s : List Bnd} {v : Int} {k : Nat} (hk : k < s.length) (he : s[k].var = v) (hno : ∀ i (h : i < s.length), i < k → s[i].var ≠ v) : placeS s v = k ∧ bindS s v = some s[k].t := by
  constructor
  · unfold placeS
    rw [List.findIdx?_eq_some_iff_getElem.2 ⟨hk, by simpa using he, fun j hj => by simpa using hno j (by omega) hj⟩]
  · unfold bindS
    rw [List.find?_eq_some_iff_getElem.2 ⟨by simpa using he, k, hk, rfl, fun j hj => by simpa using hno j (by omega) hj⟩]; rfl
theorem placeS_none {s : List Bnd} {v : Int} (hno : ∀ i (h : i < s.length), s[i].var ≠ v) : placeS s v = -1 ∧ bindS s v = none := by
  have h : ∀ b ∈ s, ¬ (decide (b.var = v)) = true := fun b hb => by
    obtain ⟨i, hi, rfl⟩ := List.mem_iff_getElem.1 hb
    simpa using hno i hi
  constructor
  · unfold placeS
    rw [List.findIdx?_eq_none_iff.2 fun b hb => by simpa using h b hb]
  · unfold bindS
    rw [List.find?_eq_none.2 h]; rfl
theorem placeS_cases (s : List Bnd) (v : Int) : (placeS s v = -1 ∧ bindS s v = none) ∨ ∃ k, ∃ h : k < s.length, placeS s v = k ∧ s[k].var = v ∧ bindS s v = some s[k].t := by
  rcases hf : s.findIdx? (fun b => decide (b.var = v)) with _ | k
  · refine .inl (placeS_none fun i hi e => ?_)
    have := List.findIdx?_eq_none_iff.1 hf s[i] (List.getElem_mem hi)
    simp [e] at this
  · obtain ⟨h1, h2, h3⟩ := List.findIdx?_eq_some_iff_getElem.1 hf
    have he : s[k].var = v := by simpa using h2
    have := placeS_at h1 he (fun i hi hlt => by simpa using h3 i hlt)
    exact .inr ⟨k, h1, this.1, he, this.2⟩

theorem place_spec {S : Nat → Prop} {w : World} {v : Value} {s : List Bnd} {n : Int} (hs : Seq bindE S w v s) :
    Calls Tryz.prog 84 #[v, .int .i64 n] w (PureV (.int .i64 (placeS s n)) w) := by
  obtain ⟨ao, cap, rfl, h1, h2, h3, -, h5⟩ := hs
  go_enter Tryz.func84, Tryz.ntmps84
  go_wp2_with fail
  go_loopw [5] (fun i wr => ∃ k : Nat, k ≤ s.length ∧ i = .int .i64 k ∧ Hid (∀ i (h : i < s.length), i < k → s[i].var ≠ n) ∧ w = wr) (fun i _ => s.length - (intOf i).toNat)
  case atStart => exact ⟨0, Nat.zero_le _, rfl, Lib.hid (fun i _ h => absurd h (Nat.not_lt_zero _)), rfl⟩
  case round =>
    obtain ⟨k, hk, rfl, hno, rfl⟩ := hrel
    by_cases hlt : k < s.length
    · obtain ⟨b, off, ta, tc, rfl, -, -, c0, -, -, -⟩ := h5.bnd2 hlt
      have hy := Lib.hid (show s[k].var = n → placeS s n = k from fun h => (placeS_at hlt h hno.out).1)
      have hz := Lib.hid (show s[k].var ≠ n → ∀ i (h : i < s.length), i < k + 1 → s[i].var ≠ n from fun h i hi hlt => by
        by_cases e : i = k
        · subst e; exact h
        · exact hno.out i hi (by omega))
      obtain ⟨x, hx⟩ : ∃ x, x = s[k].var := ⟨_, rfl⟩
      rw [← hx] at c0 hy hz
      clear hx h5
      have hkl : (k : Int) < (s.length : Int) := by omega
      have hk0 : (0 : Int) ≤ (k : Int) := by omega
      by_cases he : x = n
      · have hy' := Lib.hid (hy.out he)
        have he' : (x == n) = true := by simp [he]
        clear hy hz he
        go_wp2_with fail
        go_ret
        exact ⟨ret_int hy'.out.symm, rfl⟩
      · have hz' := Lib.hid (hz.out he)
        have he' : (x == n) = false := by simp [he]
        clear hy hz he
        go_wp2_with fail
        go_roundw
        case rel => exact ⟨k + 1, hlt, by go_num, hz', trivial⟩
        case measure => simp [intOf]; omega
    · obtain rfl : k = s.length := by omega
      have hd := Lib.hid (show placeS s n = -1 from (placeS_none fun i hi => hno.out i hi hi).1)
      go_wp2_with fail
      go_ret
      exact ⟨ret_int hd.out.symm, rfl⟩


def fewS (s : List Bnd) : Bool := s.all (fun b => decide (b.t.length ≤ 300)) && decide (s.length ≤ 30)

end
section
open Go Go.RowKit

instance : DecidableEq Bnd := fun a b => decidable_of_iff (a.var = b.var ∧ a.t = b.t) (by cases a; cases b; simp)
theorem bnd_eq {a b : Bnd} : a = b ↔ a.var = b.var ∧ a.t = b.t := by cases a; cases b; simp

theorem infoCellS : (Tryz.prog.info? 44).map (fun i => (i.zero, i.size, i.bytes)) = some (some (.agg #[.int .i64 0, .string ⟨#[]⟩, .int .i64 0]), 3, 32) := by kernel_rfl
theorem infoBindS : (Tryz.prog.info? 46).map (fun i => (i.zero, i.size, i.bytes)) = some (some (.agg #[.int .i64 0, .slice none 0 0]), 2, 32) := by kernel_rfl
section
variable {P : Program} {ops : Array Oper} {rest : List Oper} {o : Oper} {a : Act} {Q : Exit → Act → World → Prop}
theorem wpList_app_cellS {S : Nat → Prop} {w : World} (hgd : o.guard = none) (s x : Operand) (t : TypeId)
    (ho : o.op = .call { callee := .builtin .append, args := #[s, x], argTypes := #[t, t] })
    {base : Nat} {e : TypeId} (ht : P.underlying t = some (.slice e)) (hi : (P.info? e).map (fun i => (i.zero, i.size, i.bytes)) = some (some (.agg #[.int .i64 0, .string ⟨#[]⟩, .int .i64 0]), 3, 32))
    {v : Value} {xs : List Cell} (hs : a.eval s = v) (hown : Own cellE S base e w v xs) {B c : Nat} (hx : a.eval x = .slice (some ⟨B, 0, none⟩) 1 c)
    {y : Cell} (h1 : IntOK y.kind) (h2 : IntOK y.n) (h3 : y.name.size ≤ 140737488355328)
    (hc0 : w.cell? ⟨B, 0, none⟩ = some (.int .i64 y.kind)) (hc1 : w.cell? ⟨B, 1, none⟩ = some (.string y.name)) (hc2 : w.cell? ⟨B, 2, none⟩ = some (.int .i64 y.n)) (hbytes : xs.length ≤ 1000000000000) (hbase : base ≤ w.heap.size)
    (h : ∀ ao cap w', Own cellE S base e w' (.slice ao (xs.length + 1) cap) (xs ++ [y]) → KeptW base w w' v (.slice ao (xs.length + 1) cap) → wpList P ops Q rest (a.put o.dst (.slice ao (xs.length + 1) cap)) w') : wpList P ops Q (o :: rest) a w :=
  wpList_app1W (E := cellE) (Sy := fun _ => False) (y := y) (cs := [.int .i64 y.kind, .string y.name, .int .i64 y.n]) hgd s x t ho ht hi rfl hs hown _ _ hx ⟨rfl, h1, h2, h3⟩ (fun _ h => h.elim)
    (by
      intro j hj
      have h3 : j < 3 := hj
      rcases (show j = 0 ∨ j = 1 ∨ j = 2 by omega) with rfl | rfl | rfl
      · exact hc0
      · exact hc1
      · exact hc2) (by omega) (by simp only [maxLen]; omega) hbase h
theorem wpList_app_bindS {S Sy : Nat → Prop} {w : World} (hgd : o.guard = none) (s x : Operand) (t : TypeId)
    (ho : o.op = .call { callee := .builtin .append, args := #[s, x], argTypes := #[t, t] })
    {base : Nat} {e : TypeId} (ht : P.underlying t = some (.slice e)) (hi : (P.info? e).map (fun i => (i.zero, i.size, i.bytes)) = some (some (.agg #[.int .i64 0, .slice none 0 0]), 2, 32))
    {v : Value} {xs : List Bnd} (hs : a.eval s = v) (hown : Own bindE S base e w v xs) {B c : Nat} (hx : a.eval x = .slice (some ⟨B, 0, none⟩) 1 c)
    {y : Bnd} {vt : Value} (hok : IntOK y.var) (hy : Seq cellE Sy w vt y.t) (hS : ∀ b, Sy b → b < w.heap.size → S b ∧ v.ownBlock ≠ some b)
    (hc0 : w.cell? ⟨B, 0, none⟩ = some (.int .i64 y.var)) (hc1 : w.cell? ⟨B, 1, none⟩ = some vt) (hbytes : xs.length ≤ 1000000000000) (hbase : base ≤ w.heap.size)
    (h : ∀ ao cap w', Own bindE S base e w' (.slice ao (xs.length + 1) cap) (xs ++ [y]) → KeptW base w w' v (.slice ao (xs.length + 1) cap) → wpList P ops Q rest (a.put o.dst (.slice ao (xs.length + 1) cap)) w') : wpList P ops Q (o :: rest) a w :=
  wpList_app1W (E := bindE) (Sy := Sy) (y := y) (cs := [.int .i64 y.var, vt]) hgd s x t ho ht hi rfl hs hown _ _ hx ⟨vt, rfl, hok, hy⟩ hS
    (by
      intro j hj
      have h3 : j < 2 := hj
      rcases (show j = 0 ∨ j = 1 by omega) with rfl | rfl
      · exact hc0
      · exact hc1) (by omega) (by simp only [maxLen]; omega) hbase h
end
theorem own_cellS {S T : Nat → Prop} {base : Nat} {e : TypeId} {w : World} {v : Value} {xs : List Cell} (h : Own cellE S base e w v xs) : Own cellE T base e w v xs := by
  obtain ⟨vs, h1, h2⟩ := h
  exact ⟨vs, h1, fun k x hx => h2 k x hx⟩

/-! ### Same -/
theorem sameS_succ {a b : List Bnd} {k : Nat} (h : ∀ j, j < k → a[j]? = b[j]?) (ha : k < a.length) (hb : k < b.length) (he : a[k] = b[k]) : ∀ j, j < k + 1 → a[j]? = b[j]? := fun j hj => by
  by_cases e : j = k
  · subst e; rw [List.getElem?_eq_getElem ha, List.getElem?_eq_getElem hb, he]
  · exact h j (by omega)
theorem sameS_all {a b : List Bnd} (h : ∀ j, j < a.length → a[j]? = b[j]?) (hl : a.length = b.length) : a = b := List.ext_getElem? fun j => by
  by_cases hj : j < a.length
  · exact h j hj
  · rw [List.getElem?_eq_none (by omega), List.getElem?_eq_none (by omega)]


/-! ### put, Apply -/
def lookS (s : List Bnd) (c : Cell) : List Cell := if c.kind = 1 then (bindS s c.n).getD [c] else [c]
def putT (s : List Bnd) (t : List Cell) : List Cell := t.flatMap (lookS s)
theorem putT_snoc {s : List Bnd} {t : List Cell} {k : Nat} (hk : k < t.length) : putT s (t.take (k + 1)) = putT s (t.take k) ++ lookS s t[k] := by
  unfold putT
  rw [List.take_succ_eq_append_getElem hk, List.flatMap_append]; simp
theorem bindS_mem {s : List Bnd} {v : Int} {t : List Cell} (h : bindS s v = some t) : ∃ b ∈ s, b.var = v ∧ b.t = t := by
  unfold bindS at h
  cases hf : s.find? (fun b => decide (b.var = v)) with
  | none => rw [hf] at h; cases h
  | some b =>
    rw [hf] at h
    simp only [Option.map_some, Option.some.injEq] at h
    exact ⟨b, List.mem_of_find?_eq_some hf, by simpa using List.find?_some hf, h⟩
theorem lookS_len {s : List Bnd} {c : Cell} {m : Nat} (hs : ∀ b ∈ s, b.t.length ≤ m) (hm : 1 ≤ m) : (lookS s c).length ≤ m := by
  unfold lookS
  split
  · cases hb : bindS s c.n with
    | none => simpa using hm
    | some t =>
      obtain ⟨b, hb1, -, rfl⟩ := bindS_mem hb
      exact hs b hb1
  · simpa using hm
theorem putT_len {s : List Bnd} {m : Nat} (hs : ∀ b ∈ s, b.t.length ≤ m) (hm : 1 ≤ m) : ∀ t : List Cell, (putT s t).length ≤ t.length * m
  | [] => by simp [putT]
  | c :: t => by
    have h1 := putT_len hs hm t
    have h2 := lookS_len (c := c) hs hm
    have e : putT s (c :: t) = lookS s c ++ putT s t := rfl
    rw [e, List.length_append, List.length_cons, Nat.add_mul]
    omega
end
section
open Go Go.RowKit

theorem putT_step {s : List Bnd} {t : List Cell} {k : Nat} (hk : k < t.length) :
    (t[k].kind = 1 → placeS s t[k].n = -1 → putT s (t.take (k + 1)) = putT s (t.take k) ++ [t[k]]) ∧
    (t[k].kind ≠ 1 → putT s (t.take (k + 1)) = putT s (t.take k) ++ [t[k]]) ∧
    (t[k].kind = 1 → ∀ i (h : i < s.length), placeS s t[k].n = i → putT s (t.take (k + 1)) = putT s (t.take k) ++ s[i].t) := by
  have h0 := putT_snoc (s := s) hk
  refine ⟨fun h1 h2 => ?_, fun h1 => ?_, fun h1 i hi h2 => ?_⟩
  · rw [h0]
    unfold lookS
    rw [if_pos h1]
    rcases placeS_cases s t[k].n with ⟨-, h⟩ | ⟨j, hj, h, -, -⟩
    · rw [h]; rfl
    · omega
  · rw [h0]
    unfold lookS
    rw [if_neg h1]
  · rw [h0]
    unfold lookS
    rw [if_pos h1]
    rcases placeS_cases s t[k].n with ⟨h, -⟩ | ⟨j, hj, h, -, h3⟩
    · omega
    · obtain rfl : i = j := by omega
      rw [h3]; rfl

set_option maxHeartbeats 1600000 in
set_option maxRecDepth 100000 in
theorem put_spec {S T : Nat → Prop} {w : World} {v u : Value} {s : List Bnd} {t : List Cell} (hs : Seq bindE S w v s) (ht : Seq cellE T w u t) (hm : ∀ b ∈ s, b.t.length ≤ 300) (hlen : t.length ≤ 1000000) :
    Calls Tryz.prog 55 #[v, u] w (Ret (fun r w' => Seq cellE (fun b => w.heap.size ≤ b) w' r (putT s t)) w) := by
  have Hs := Lib.hid hs
  have hmax := Lib.hid (fun t' (h : t'.length ≤ 1000000) => show (putT s t').length ≤ 300000000 by have := putT_len hm (by omega) t'; omega)
  obtain ⟨sa, sc, rfl, -, -, hsl, -, s5⟩ := hs.bnd
  obtain ⟨ta, tc, rfl, -, -, htl, -, t5⟩ := ht
  have hsf := fun {w' : World} (h : Below w.heap.size w w') => Lib.hid (s5.below h fun _ h _ => h.2 : SeqAt bindE _ w' sa s)
  have htf := fun {w' : World} (h : Below w.heap.size w w') => Lib.hid (t5.below h fun _ _ h => h : SeqAt cellE T w' ta t)
  clear s5 t5 hm
  go_enter Tryz.func55, Tryz.ntmps55
  go_wp2_with fail
  go_loopw [5, 6] (fun o i wr => ∃ k : Nat, k ≤ t.length ∧ i = .int .i64 k ∧ Own cellE (fun _ => True) w.heap.size 44 wr o (putT s (t.take k)) ∧ Below w.heap.size w wr) (fun _ i _ => t.length - (intOf i).toNat)
  case atStart => exact ⟨0, Nat.zero_le _, rfl, Own.lit0 rfl (Nat.le_refl _) rfl, Seq.way⟩
  case round =>
    obtain ⟨k, hk, rfl, hown, hbel⟩ := hrel
    have hsz : w.heap.size ≤ wr.heap.size := hbel.size
    have Hb := Lib.hid hbel
    obtain ⟨oa, oc, rfl, -, -⟩ := hown.shape
    have Hown := Lib.hid hown
    have hln := Lib.hid (hmax.out (t.take k) (by rw [List.length_take]; omega))
    clear hown
    by_cases hlt : k < t.length
    · have hst := Lib.hid (putT_step (s := s) hlt)
      have hln2 := Lib.hid (hmax.out (t.take (k + 1)) (by rw [List.length_take]; omega))
      obtain ⟨b, off, rfl, -, hb, c0, c1, c2, ok0, ok2, ok3⟩ := (htf hbel).out.cell hlt
      obtain ⟨c, hc⟩ : ∃ c, c = t[k] := ⟨_, rfl⟩
      rw [← hc] at c0 c1 c2 ok0 ok2 ok3 hst
      obtain ⟨L, hL⟩ : ∃ L, L = putT s (t.take k) := ⟨_, rfl⟩
      have HL := Lib.hid hL
      rw [← hL] at hst hln Hown ⊢
      obtain ⟨L2, hL2⟩ : ∃ L, L = putT s (t.take (k + 1)) := ⟨_, rfl⟩
      have HL2 := Lib.hid hL2
      rw [← hL2] at hst hln2
      clear hc htf hL hL2 hmax
      have hkl : (k : Int) < (t.length : Int) := by omega
      have hk0 : (0 : Int) ≤ (k : Int) := by omega
      by_cases hkd : c.kind = 1
      · go_wp2_with fail
        refine (place_spec (n := c.n) (Hs.out.at hbel)).mono ?_
        rintro e _ ⟨rfl, rfl⟩
        rcases placeS_cases s c.n with ⟨hp, -⟩ | ⟨j, hj, hp, -, -⟩
        · have hap := Lib.hid (hst.out.1 hkd hp)
          clear hst
          rw [hp]
          clear hp
          go_wp2_with (at_builtin; refine wpList_app_cellS rfl _ _ 23 rfl Tryz.underlying23 infoCellS rfl (Hown.out.move Seq.way) rfl (y := c) ok0 ok2 ok3 (by go_simp) (by go_simp) (by go_simp) (by have := hln.out; omega) (by simp; omega) ?_)
          intro ao cap w' hown' hkept
          have H' := Lib.hid hown'
          have K' := Lib.hid (Hb.out.trans (Below.trans Seq.way hkept.below))
          clear hown' hkept
          go_wp2_with fail
          go_roundw
          case rel => exact ⟨k + 1, hlt, by go_num, by rw [← HL2.out, hap.out]; simpa using H'.out, K'.out⟩
          case measure => simp [intOf]; omega
        · have hap := Lib.hid (hst.out.2.2 hkd j hj hp)
          obtain ⟨b2, o2, p2, n2, rfl, -, -, -, e1, -, hX⟩ := (hsf hbel).out.bnd2 hj
          have HX := Lib.hid hX
          have hlX : s[j].t.length ≤ 300000000 := by have := hln2.out; rw [hap.out, List.length_append] at this; omega
          obtain ⟨y, hy⟩ : ∃ y, y = s[j].t := ⟨_, rfl⟩
          rw [← hy] at e1 HX hap hlX
          clear hst hX hy hsf
          rw [hp]
          have hj0 : (0 : Int) ≤ (j : Int) := by omega
          have hj1 : ¬ (j : Int) < 0 := by omega
          have hj2 : (j : Int) < (s.length : Int) := by omega
          clear hp hj
          go_wp2_with (at_builtin; refine wpList_appL (wm := wr) (zs := L2) rfl _ _ 23 rfl Tryz.underlying23 infoCellS rfl rfl Hown.out (Below.refl _ _) rfl HX.out (fun b h _ => ⟨trivial, .inl h.2⟩) hap.out (by omega) (by have := hln2.out; omega) (by omega) ?_)
          intro ao cap w' hown' hkept
          have H' := Lib.hid hown'
          have K' := Lib.hid (Hb.out.trans hkept.below)
          clear hown' hkept
          go_wp2_with fail
          go_roundw
          case rel => exact ⟨k + 1, hlt, by go_num, by rw [← HL2.out]; exact H'.out, K'.out⟩
          case measure => simp [intOf]; omega
      · have hap := Lib.hid (hst.out.2.1 hkd)
        clear hst
        go_wp2_with (at_builtin; refine wpList_app_cellS rfl _ _ 23 rfl Tryz.underlying23 infoCellS rfl (Hown.out.move Seq.way) rfl (y := c) ok0 ok2 ok3 (by go_simp) (by go_simp) (by go_simp) (by have := hln.out; omega) (by simp; omega) ?_)
        intro ao cap w' hown' hkept
        have H' := Lib.hid hown'
        have K' := Lib.hid (Hb.out.trans (Below.trans Seq.way hkept.below))
        clear hown' hkept
        go_wp2_with fail
        go_roundw
        case rel => exact ⟨k + 1, hlt, by go_num, by rw [← HL2.out, hap.out]; simpa using H'.out, K'.out⟩
        case measure => simp [intOf]; omega
    · obtain rfl : k = t.length := by omega
      rw [List.take_length] at Hown hln ⊢
      go_wp2_with fail
      go_ret
      exact ⟨_, rfl, Hb.out, (own_cellS (T := fun _ => False) Hown.out).seqB (by have := hln.out; omega) fun b hb h => h.elim False.elim fun h => (Hown.out.blk h).1⟩


/-- What is put in, if it is not too long. -/
def appO (s : List Bnd) (t : List Cell) : Option (List Cell) := if (putT s t).length ≤ 200 then some (putT s t) else none
def appL (o : Option (List Cell)) : List Cell := o.getD []
def RetL {α : Type} (E : Elt α) (S : Nat → Prop) (o : Option (List α)) (w : World) (e : Ending) (w' : World) : Prop :=
  ∃ v, e = .returned (.tuple #[v, .bool o.isSome]) ∧ Below w.heap.size w w' ∧ Seq E S w' v (o.getD [])

set_option maxHeartbeats 1600000 in
theorem ApplyR_spec {S T : Nat → Prop} {w : World} {v u : Value} {s : List Bnd} {t : List Cell} (hs : Seq bindE S w v s) (ht : Seq cellE T w u t) (hm : ∀ b ∈ s, b.t.length ≤ 300) (hlen : t.length ≤ 1000000) :
    Calls Tryz.prog 30 #[v, u] w (RetL cellE (fun b => w.heap.size ≤ b) (appO s t) w) := by
  have Hs := Lib.hid hs
  have Ht := Lib.hid ht
  have hmax := Lib.hid (show (putT s t).length ≤ 300000000 by have := putT_len hm (by omega) t; omega)
  have Hm := Lib.hid hm
  obtain ⟨sa, sc, rfl, -⟩ := hs
  obtain ⟨ta, tc, rfl, -⟩ := ht
  clear hm
  go_enter Tryz.func30, Tryz.ntmps30
  go_wp2_with fail
  refine (put_spec Hs.out Ht.out Hm.out hlen).mono ?_
  rintro e w1 ⟨v1, rfl, hb1, hs1⟩
  have HS := Lib.hid hs1
  obtain ⟨oa, oc, rfl⟩ := hs1.shape
  clear hs1
  by_cases h : (putT s t).length ≤ 200
  · have h' : ¬ (200 : Int) < (putT s t).length := by omega
    have ho := Lib.hid (show appO s t = some (putT s t) from if_pos h)
    clear h
    go_wp2_with fail
    go_ret2
    rw [ho.out]
    exact ⟨_, rfl, hb1, HS.out⟩
  · have h' : (200 : Int) < (putT s t).length := by omega
    have ho := Lib.hid (show appO s t = none from if_neg h)
    clear h
    go_wp2_with fail
    go_ret2
    rw [ho.out]
    exact ⟨_, rfl, hb1, Seq.nil _ _ _⟩

/-! ### Keep -/
def keepS (s : List Bnd) (l : List Int) : List Bnd := fltL (fun b => decide (b.var ∈ l)) s
theorem keepS_len (s : List Bnd) (l : List Int) : (keepS s l).length ≤ s.length := fltL_len _ _


end
end Go.Proofs.YtceipnlpofebmaaGreat
