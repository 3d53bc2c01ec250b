/-
  Layer 2: the document's Same, put, Apply, Keep.
-/
import Derived.Test.YtgfiaddldmmjiaaSuA
import Derived.Test.YtgfiaddldmmjiaaAppW
import Derived.StillTailTactics
namespace Go.Proofs.Ytgfiaddldmmjiaa
open Go Go.RowKit

instance : DecidableEq Bnd := fun a b => decidable_of_iff (a.var = b.var ∧ a.t = b.t) (by cases a; cases b; simp)
theorem bnd_eq {a b : Bnd} : a = b ↔ a.var = b.var ∧ a.t = b.t := by cases a; cases b; simp

theorem infoCellS : (Try.prog.info? 41).map (fun i => (i.zero, i.size, i.bytes)) = some (some (.agg #[.int .i64 0, .string ⟨#[]⟩, .int .i64 0]), 3, 32) := by kernel_rfl
theorem infoBindS : (Try.prog.info? 44).map (fun i => (i.zero, i.size, i.bytes)) = some (some (.agg #[.int .i64 0, .slice none 0 0]), 2, 32) := by kernel_rfl
section
variable {P : Program} {ops : Array Oper} {rest : List Oper} {o : Oper} {a : Act} {Q : Exit → Act → World → Prop}
theorem wpList_app_cellS {S : Nat → Prop} {w : World} (hgd : o.guard = none) (s x : Operand) (t : TypeId)
    (ho : o.op = .call { callee := .builtin .append, args := #[s, x], argTypes := #[t, t] })
    {base : Nat} {e : TypeId} (ht : P.underlying t = some (.slice e)) (hi : (P.info? e).map (fun i => (i.zero, i.size, i.bytes)) = some (some (.agg #[.int .i64 0, .string ⟨#[]⟩, .int .i64 0]), 3, 32))
    {v : Value} {xs : List Cell} (hs : a.eval s = v) (hown : Own cellE S base e w v xs) {B c : Nat} (hx : a.eval x = .slice (some ⟨B, 0, none⟩) 1 c)
    {y : Cell} (h1 : IntOK y.kind) (h2 : IntOK y.n) (h3 : y.name.size ≤ 140737488355328)
    (hc0 : w.cell? ⟨B, 0, none⟩ = some (.int .i64 y.kind)) (hc1 : w.cell? ⟨B, 1, none⟩ = some (.string y.name)) (hc2 : w.cell? ⟨B, 2, none⟩ = some (.int .i64 y.n)) (hbytes : xs.length ≤ 1000000000000) (hbase : base ≤ w.heap.size)
    (h : ∀ ao cap w', Own cellE S base e w' (.slice ao (xs.length + 1) cap) (xs ++ [y]) → KeptW base w w' v (.slice ao (xs.length + 1) cap) → wpList P ops Q rest (a.put o.dst (.slice ao (xs.length + 1) cap)) w') : wpList P ops Q (o :: rest) a w :=
  wpList_app1W (E := cellE) (Sy := fun _ => False) (y := y) (cs := [.int .i64 y.kind, .string y.name, .int .i64 y.n]) hgd s x t ho ht hi rfl hs hown _ _ hx ⟨rfl, h1, h2, h3⟩ (fun _ h => h.elim)
    (by
      intro j hj
      have h3 : j < 3 := hj
      rcases (show j = 0 ∨ j = 1 ∨ j = 2 by omega) with rfl | rfl | rfl
      · exact hc0
      · exact hc1
      · exact hc2) (by omega) (by simp only [maxLen]; omega) hbase h
theorem wpList_app_bindS {S Sy : Nat → Prop} {w : World} (hgd : o.guard = none) (s x : Operand) (t : TypeId)
    (ho : o.op = .call { callee := .builtin .append, args := #[s, x], argTypes := #[t, t] })
    {base : Nat} {e : TypeId} (ht : P.underlying t = some (.slice e)) (hi : (P.info? e).map (fun i => (i.zero, i.size, i.bytes)) = some (some (.agg #[.int .i64 0, .slice none 0 0]), 2, 32))
    {v : Value} {xs : List Bnd} (hs : a.eval s = v) (hown : Own bindE S base e w v xs) {B c : Nat} (hx : a.eval x = .slice (some ⟨B, 0, none⟩) 1 c)
    {y : Bnd} {vt : Value} (hok : IntOK y.var) (hy : Seq cellE Sy w vt y.t) (hS : ∀ b, Sy b → b < w.heap.size → S b ∧ v.ownBlock ≠ some b)
    (hc0 : w.cell? ⟨B, 0, none⟩ = some (.int .i64 y.var)) (hc1 : w.cell? ⟨B, 1, none⟩ = some vt) (hbytes : xs.length ≤ 1000000000000) (hbase : base ≤ w.heap.size)
    (h : ∀ ao cap w', Own bindE S base e w' (.slice ao (xs.length + 1) cap) (xs ++ [y]) → KeptW base w w' v (.slice ao (xs.length + 1) cap) → wpList P ops Q rest (a.put o.dst (.slice ao (xs.length + 1) cap)) w') : wpList P ops Q (o :: rest) a w :=
  wpList_app1W (E := bindE) (Sy := Sy) (y := y) (cs := [.int .i64 y.var, vt]) hgd s x t ho ht hi rfl hs hown _ _ hx ⟨vt, rfl, hok, hy⟩ hS
    (by
      intro j hj
      have h3 : j < 2 := hj
      rcases (show j = 0 ∨ j = 1 by omega) with rfl | rfl
      · exact hc0
      · exact hc1) (by omega) (by simp only [maxLen]; omega) hbase h
end
theorem own_cellS {S T : Nat → Prop} {base : Nat} {e : TypeId} {w : World} {v : Value} {xs : List Cell} (h : Own cellE S base e w v xs) : Own cellE T base e w v xs := by
  obtain ⟨vs, h1, h2⟩ := h
  exact ⟨vs, h1, fun k x hx => h2 k x hx⟩

/-! ### Same -/
theorem sameS_succ {a b : List Bnd} {k : Nat} (h : ∀ j, j < k → a[j]? = b[j]?) (ha : k < a.length) (hb : k < b.length) (he : a[k] = b[k]) : ∀ j, j < k + 1 → a[j]? = b[j]? := fun j hj => by
  by_cases e : j = k
  · subst e; rw [List.getElem?_eq_getElem ha, List.getElem?_eq_getElem hb, he]
  · exact h j (by omega)
theorem sameS_all {a b : List Bnd} (h : ∀ j, j < a.length → a[j]? = b[j]?) (hl : a.length = b.length) : a = b := List.ext_getElem? fun j => by
  by_cases hj : j < a.length
  · exact h j hj
  · rw [List.getElem?_eq_none (by omega), List.getElem?_eq_none (by omega)]

set_option maxHeartbeats 1600000 in
set_option maxRecDepth 100000 in
theorem SameS_spec {S T : Nat → Prop} {w : World} {v u : Value} {a b : List Bnd} (ha : Seq bindE S w v a) (hb : Seq bindE T w u b) :
    Calls Try.prog 22 #[v, u] w (QuietV (.bool (decide (a = b))) w) := by
  obtain ⟨aa, ac, rfl, -, -, hal, -, ha5⟩ := ha
  obtain ⟨ba, bc, rfl, -, -, hbl, -, hb5⟩ := hb
  go_enter Try.func22, Try.ntmps22
  by_cases hlen : a.length = b.length
  · have Hlen := Lib.hid hlen
    have haf := fun {w' : World} (h : Drew w w') => Lib.hid (ha5.below (h.below w.heap.size) fun _ _ h => h : SeqAt bindE S w' aa a)
    have hbf := fun {w' : World} (h : Drew w w') => Lib.hid (hb5.below (h.below w.heap.size) fun _ _ h => h : SeqAt bindE T w' ba b)
    obtain ⟨n, hn⟩ : ∃ n, n = b.length := ⟨_, rfl⟩
    have Hn := Lib.hid hn
    rw [hlen, ← hn]
    clear hlen hn ha5 hb5
    go_wp2_with fail
    go_loopw [5] (fun i wr => ∃ k : Nat, k ≤ n ∧ i = .int .i64 k ∧ Hid (∀ j, j < k → a[j]? = b[j]?) ∧ Drew w wr) (fun i _ => n - (intOf i).toNat)
    case atStart => exact ⟨0, Nat.zero_le _, rfl, Lib.hid (by simp), Drew.refl _⟩
    case round =>
      obtain ⟨k, hk, rfl, hno, hbr⟩ := hrel
      by_cases hlt : k < n
      · have hka : k < a.length := by rw [Hlen.out, ← Hn.out]; exact hlt
        have hkb : k < b.length := by rw [← Hn.out]; exact hlt
        obtain ⟨b1, o1, p1, n1, rfl, -, hlb, e0, e1, -, hX⟩ := (haf hbr).out.bnd2 hka
        obtain ⟨b2, o2, p2, n2, rfl, -, hlb2, g0, g1, -, hY⟩ := (hbf hbr).out.bnd2 hkb
        have hx := Lib.hid (show a[k] = b[k] → ∀ j, j < k + 1 → a[j]? = b[j]? from fun h => sameS_succ hno.out hka hkb h)
        have hn := Lib.hid (show a[k] ≠ b[k] → decide (a = b) = false from fun h => decide_eq_false fun e => by subst e; exact h rfl)
        have HX := Lib.hid hX
        have HY := Lib.hid hY
        clear hX hY
        obtain ⟨⟨xa, xt⟩, hxe⟩ : ∃ x, x = a[k] := ⟨_, rfl⟩
        obtain ⟨⟨ya, yt⟩, hye⟩ : ∃ y, y = b[k] := ⟨_, rfl⟩
        rw [← hxe] at e0 e1 HX hx hn
        rw [← hye] at g0 g1 HY hx hn
        dsimp only at e0 e1 HX g0 g1 HY
        clear hxe hye
        have hkl : (k : Int) < (n : Int) := by omega
        have hk0 : (0 : Int) ≤ (k : Int) := by omega
        by_cases had : xa = ya
        · subst had
          go_wp2_with fail
          go_still_tail 22, (by kernel_rfl)
          go_wp2_with fail
          refine (SameT_spec (HX.out.at Seq.way) (HY.out.at Seq.way)).mono ?_
          rintro e w2 ⟨rfl, hq⟩
          have hb2 := Lib.hid (show Drew w w2 from hbr.trans ((Drew.of wr 1).trans hq))
          clear hq
          by_cases he : xt = yt
          · have hx' := Lib.hid (hx.out (by rw [he]))
            have hd : decide (xt = yt) = true := by simp [he]
            rw [hd]
            clear hd he
            go_wp2_with fail
            go_roundw
            case rel => exact ⟨k + 1, hlt, by go_num, hx', hb2.out⟩
            case measure => simp [intOf]; omega
          · have hn' := Lib.hid (hn.out (fun e => he (by simp only [Bnd.mk.injEq] at e; exact e.2)))
            have hd : decide (xt = yt) = false := by simp [he]
            rw [hd]
            clear hd he
            go_wp2_with fail
            go_ret
            exact ⟨ret_bool hn'.out.symm, hb2.out⟩
        · have hn' := Lib.hid (hn.out (fun e => had (by simp only [Bnd.mk.injEq] at e; exact e.1)))
          go_wp2_with fail
          go_quiet (fail)
          go_wp2_with fail
          go_ret
          exact ⟨ret_bool hn'.out.symm, hbr.trans (Drew.of _ _)⟩
      · obtain rfl : k = n := by omega
        have hx := Lib.hid (show decide (a = b) = true from decide_eq_true (sameS_all (by rw [Hlen.out, ← Hn.out]; exact hno.out) Hlen.out))
        go_wp2_with fail
        go_ret
        exact ⟨ret_bool hx.out.symm, hbr⟩
  · have hx := Lib.hid (show decide (a = b) = false from decide_eq_false fun e => hlen (by rw [e]))
    have hl' : ¬ (a.length : Int) = b.length := by omega
    clear hlen
    go_wp2_with fail
    go_ret
    exact ⟨ret_bool hx.out.symm, Drew.refl _⟩

/-! ### put, Apply -/
def lookS (s : List Bnd) (c : Cell) : List Cell := if c.kind = 1 then (bindS s c.n).getD [c] else [c]
def putT (s : List Bnd) (t : List Cell) : List Cell := t.flatMap (lookS s)
theorem putT_snoc {s : List Bnd} {t : List Cell} {k : Nat} (hk : k < t.length) : putT s (t.take (k + 1)) = putT s (t.take k) ++ lookS s t[k] := by
  unfold putT
  rw [List.take_succ_eq_append_getElem hk, List.flatMap_append]; simp
theorem bindS_mem {s : List Bnd} {v : Int} {t : List Cell} (h : bindS s v = some t) : ∃ b ∈ s, b.var = v ∧ b.t = t := by
  unfold bindS at h
  cases hf : s.find? (fun b => decide (b.var = v)) with
  | none => rw [hf] at h; cases h
  | some b =>
    rw [hf] at h
    simp only [Option.map_some, Option.some.injEq] at h
    exact ⟨b, List.mem_of_find?_eq_some hf, by simpa using List.find?_some hf, h⟩
theorem lookS_len {s : List Bnd} {c : Cell} {m : Nat} (hs : ∀ b ∈ s, b.t.length ≤ m) (hm : 1 ≤ m) : (lookS s c).length ≤ m := by
  unfold lookS
  split
  · cases hb : bindS s c.n with
    | none => simpa using hm
    | some t =>
      obtain ⟨b, hb1, -, rfl⟩ := bindS_mem hb
      exact hs b hb1
  · simpa using hm
theorem putT_len {s : List Bnd} {m : Nat} (hs : ∀ b ∈ s, b.t.length ≤ m) (hm : 1 ≤ m) : ∀ t : List Cell, (putT s t).length ≤ t.length * m
  | [] => by simp [putT]
  | c :: t => by
    have h1 := putT_len hs hm t
    have h2 := lookS_len (c := c) hs hm
    have e : putT s (c :: t) = lookS s c ++ putT s t := rfl
    rw [e, List.length_append, List.length_cons, Nat.add_mul]
    omega
end Go.Proofs.Ytgfiaddldmmjiaa
