/-
  Layer 7, the law: atoms, literal clauses, turned rows.
-/
import Derived.Test.YtadbdmnngmlnhaaPhB
import Derived.Test.YtadbdmnngmlnhaaPgR
import Derived.Test.YtadbdmnngmlnhaaRun
import Derived.Deep.CutBlock
namespace Go.Proofs.Ytadbdmnngmlnhaa
open Go Go.RowKit

def CellW2 (c : Cell) : Prop := IntOK c.kind ∧ IntOK c.n ∧ c.name.size ≤ 140737488355328
def flatV (cs : List Cell) : List Value := cs.flatMap fun c => [.int .i64 c.kind, .string c.name, .int .i64 c.n]
theorem flatV_get : ∀ (cs : List Cell) (k j : Nat) (c : Cell), cs[k]? = some c → j < 3 → (flatV cs)[k * 3 + j]? = [Value.int .i64 c.kind, .string c.name, .int .i64 c.n][j]?
  | [], k, j, c, h, _ => by simp at h
  | d :: cs, 0, j, c, h, hj => by
    simp at h; subst h
    show ([Value.int .i64 d.kind, .string d.name, .int .i64 d.n] ++ flatV cs)[0 * 3 + j]? = _
    rw [List.getElem?_append_left (by simp; omega)]
    congr 1; omega
  | d :: cs, k + 1, j, c, h, hj => by
    simp at h
    show ([Value.int .i64 d.kind, .string d.name, .int .i64 d.n] ++ flatV cs)[(k + 1) * 3 + j]? = _
    rw [List.getElem?_append_right (by simp; omega), ← flatV_get cs k j c h hj]
    congr 1; simp; omega
/-- A literal slice of cells. -/
theorem seq_cells {T : TypeId} {w : World} {B n : Nat} {cs : List Cell} (h : Row T w B (flatV cs)) (hok : ∀ c ∈ cs, CellW2 c) (hn : n = cs.length) (hl : cs.length ≤ 1000) :
    Seq cellE (fun _ => True) w (.slice (some ⟨B, 0, none⟩) n n) cs :=
  Row.seq h hn (Nat.le_refl _) (by unfold maxLen; omega) (by omega) trivial fun k x hk => ⟨_, ⟨rfl, hok x (List.mem_of_getElem? hk)⟩, fun j hj => flatV_get cs k j x hk hj⟩
/-- Two values an element, as they lie. -/
def pairs2 (ps : List (Value × Value)) : List Value := ps.flatMap fun p => [p.1, p.2]
theorem pairs2_get : ∀ (ps : List (Value × Value)) (k j : Nat) (p : Value × Value), ps[k]? = some p → j < 2 → (pairs2 ps)[k * 2 + j]? = [p.1, p.2][j]?
  | [], k, j, p, h, _ => by simp at h
  | d :: ps, 0, j, p, h, hj => by
    simp at h; subst h
    show ([d.1, d.2] ++ pairs2 ps)[0 * 2 + j]? = _
    rw [List.getElem?_append_left (by simp; omega)]
    congr 1; omega
  | d :: ps, k + 1, j, p, h, hj => by
    simp at h
    show ([d.1, d.2] ++ pairs2 ps)[(k + 1) * 2 + j]? = _
    rw [List.getElem?_append_right (by simp; omega), ← pairs2_get ps k j p h hj]
    congr 1; simp; omega
/-- A literal slice of literals. -/
theorem seq_lits {S : Nat → Prop} {T : TypeId} {w : World} {B n : Nat} {vs : List (Value × Value)} {bs : List Lit} (h : Row T w B (pairs2 vs)) (hn : n = bs.length) (hl : bs.length ≤ 1000) (hS : S B)
    (hx : ∀ (k : Nat) (b : Lit), bs[k]? = some b → ∃ v, vs[k]? = some (.bool b.neg, v) ∧ Seq cellE S w v b.t) : Seq litE S w (.slice (some ⟨B, 0, none⟩) n n) bs :=
  Row.seq h hn (Nat.le_refl _) (by unfold maxLen; omega) (by omega) hS fun k b hk => by
    obtain ⟨v, h1, h2⟩ := hx k b hk
    exact ⟨[.bool b.neg, v], ⟨v, rfl, h2⟩, fun j hj => pairs2_get vs k j _ h1 hj⟩
/-- A literal slice of clauses. -/
theorem seq_clss {S : Nat → Prop} {T : TypeId} {w : World} {B n : Nat} {vs : List (Value × Value)} {cs : List Cls} (h : Row T w B (pairs2 vs)) (hn : n = cs.length) (hl : cs.length ≤ 1000) (hS : S B)
    (hx : ∀ (k : Nat) (c : Cls), cs[k]? = some c → ∃ v u, vs[k]? = some (v, u) ∧ Seq cellE S w v c.head ∧ Seq litE S w u c.body) : Seq clsE S w (.slice (some ⟨B, 0, none⟩) n n) cs :=
  Row.seq h hn (Nat.le_refl _) (by unfold maxLen; omega) (by omega) hS fun k c hk => by
    obtain ⟨v, u, h1, h2, h3⟩ := hx k c hk
    exact ⟨[v, u], ⟨v, u, rfl, h2, h3⟩, fun j hj => pairs2_get vs k j _ h1 hj⟩

/-- The law's atoms. -/
def atomL (nm : ByteArray) (n : Int) : List Cell := if n < 0 then [⟨3, nm, 0⟩] else [⟨3, nm, 1⟩, ⟨1, ⟨#[]⟩, n⟩]
set_option maxRecDepth 100000 in
theorem atomLw_spec {w : World} {nm : ByteArray} {n : Int} (hnm : nm.size ≤ 1000) (hn : IntOK n) :
    Calls Try.prog 33 #[.string nm, .int .i64 n] w (Ret (fun r w' => Seq cellE (fun _ => True) w' r (atomL nm n)) w) := by
  go_enter Try.func33, Try.ntmps33
  by_cases h : n < 0
  · have he := Lib.hid (show atomL nm n = [⟨3, nm, 0⟩] by unfold atomL; rw [if_pos h])
    go_wp2_with fail
    go_ret
    refine ⟨_, rfl, Seq.way, ?_⟩
    rw [he.out]
    exact seq_cells (cs := [⟨3, nm, 0⟩]) (show Row 50 _ w.heap.size [.int .i64 3, .string nm, .int .i64 0] from Row.new w [_, _, _] _ rfl) (fun c hc => by rw [List.mem_singleton] at hc; subst hc; exact ⟨⟨by show _ ≤ (3 : Int); decide, by show (3 : Int) ≤ _; decide⟩, ⟨by show _ ≤ (0 : Int); decide, by show (0 : Int) ≤ _; decide⟩, by show nm.size ≤ _; omega⟩) rfl (by simp)
  · have he := Lib.hid (show atomL nm n = [⟨3, nm, 1⟩, ⟨1, ⟨#[]⟩, n⟩] by unfold atomL; rw [if_neg h])
    have Hn := Lib.hid hn
    clear hn
    go_wp2_with fail
    go_ret
    refine ⟨_, rfl, Seq.way, ?_⟩
    rw [he.out]
    exact seq_cells (cs := [⟨3, nm, 1⟩, ⟨1, ⟨#[]⟩, n⟩]) (show Row 50 _ w.heap.size [.int .i64 3, .string nm, .int .i64 1, .int .i64 1, .string ⟨#[]⟩, .int .i64 n] from Row.new w [_, _, _, _, _, _] _ rfl) (fun c hc => by
      rcases List.mem_cons.1 hc with rfl | hc
      · exact ⟨⟨by show _ ≤ (3 : Int); decide, by show (3 : Int) ≤ _; decide⟩, ⟨by show _ ≤ (1 : Int); decide, by show (1 : Int) ≤ _; decide⟩, by show nm.size ≤ _; omega⟩
      · rw [List.mem_singleton] at hc; subst hc; exact ⟨⟨by show _ ≤ (1 : Int); decide, by show (1 : Int) ≤ _; decide⟩, Hn.out, by show (⟨#[]⟩ : ByteArray).size ≤ _; decide⟩) rfl (by simp)
section
variable {P : Program} {ops : Array Oper} {rest : List Oper} {o : Oper} {a : Act} {Q : Exit → Act → World → Prop}
/-- 'append(v, ys...)', at the operation itself. -/
theorem wp_appS {α : Type} {E : Elt α} {S Sy : Nat → Prop} {w wm : World} {K : Act → World → Prop} (s x : Operand) (t : TypeId)
    (ho : o.op = .call { callee := .builtin .append, args := #[s, x], argTypes := #[t, t] })
    {base : Nat} {e : TypeId} {z : Value} {bytes : Nat} (ht : P.underlying t = some (.slice e)) (hi : (P.info? e).map (fun i => (i.zero, i.size, i.bytes)) = some (some z, E.sz, bytes))
    (hzs : z.cells.size = E.sz) {v : Value} {xs : List α} (hs : a.eval s = v) (hown : Own E S base e wm v xs) (hbw : Below wm.heap.size wm w)
    {ys : List α} {ad : Addr} {cy : Nat} (hx : a.eval x = .slice (some ad) ys.length cy) (hy : Seq E Sy w (.slice (some ad) ys.length cy) ys) (hS : ∀ b, Sy b → b < w.heap.size → S b ∧ (b < base ∨ wm.heap.size ≤ b))
    (hby : bytes ≤ 100) (hbytes : xs.length + ys.length ≤ 1000000000000) (hbase : base ≤ wm.heap.size)
    (h : ∀ ao cap w', Own E S base e w' (.slice ao (xs.length + ys.length) cap) (xs ++ ys) → Kept base wm w w' v (.slice ao (xs.length + ys.length) cap) → K (a.put o.dst (.slice ao (xs.length + ys.length) cap)) w') : o.wp P a w K Q := by
  obtain ⟨i, hi1, hz0, hz1, hz2⟩ := info_parts hi
  obtain ⟨vs, hv1, hv2⟩ := hown
  have hlt := hv1.lt
  have hwb : ∀ k, v.ownBlock = some k → w.heap[k]? = wm.heap[k]? := fun k hk => hbw.block k (hlt k hk).2
  obtain ⟨ay, cy', he, hy1, hy2, hy3, hy4, hy5⟩ := hy
  simp only [Value.slice.injEq, true_and] at he
  obtain ⟨rfl, rfl⟩ := he
  let news : List Value := (List.range (ys.length * E.sz)).map fun j => (w.cell? (ad.add j)).getD undef
  have hnl : news.length = ys.length * E.sz := by simp [news]
  have hcell : ∀ k y, ys[k]? = some y → ∃ cs, E.R Sy w y cs ∧ ∀ j, j < E.sz → w.cell? (ad.add (k * E.sz + j)) = cs[j]? := by
    intro k y hk
    obtain ⟨b, off, cs, h1, h2, h3, h4, h5⟩ := hy5 k y hk
    simp only [Option.some.injEq] at h1
    subst h1
    refine ⟨cs, h4, fun j hj => ?_⟩
    rw [Addr.add_lit]
    exact h5 j hj
  have hnews : ∀ k y, ys[k]? = some y → ∃ cs, E.R Sy w y cs ∧ ∀ j, j < E.sz → news[k * E.sz + j]? = cs[j]? := by
    intro k y hk
    obtain ⟨cs, h1, h2⟩ := hcell k y hk
    refine ⟨cs, h1, fun j hj => ?_⟩
    have hk' := (List.getElem?_eq_some_iff.1 hk).1
    have hlt' := chunk_lt (sz := E.sz) hk' hj
    have hl := E.len h1
    have hj' : j < cs.length := by omega
    simp only [news, List.getElem?_map, List.getElem?_range hlt', Option.map_some, h2 j hj, List.getElem?_eq_getElem hj', Option.getD_some]
  have hb2 : (xs.length + ys.length) * bytes ≤ (xs.length + ys.length) * 100 := Nat.mul_le_mul_left _ hby
  obtain ⟨v', w', hr, hown', hgrow, _, hat⟩ := run_append_own_at (P := P) w base t o.type e i z E.sz bytes ht hi1 hz0 hz1 hz2 hzs E.pos v xs.length vs (ownsRow_at hv1 hwb) ad ys.length cy news hnl (by
      intro j u hj
      have hj' : j < ys.length * E.sz := by have := (List.getElem?_eq_some_iff.1 hj).1; omega
      have hdm : j / E.sz < ys.length := Nat.div_lt_of_lt_mul (by rw [Nat.mul_comm]; exact hj')
      have hmod := Nat.mod_lt j E.pos
      obtain ⟨cs, h1, h2⟩ := hcell (j / E.sz) _ (List.getElem?_eq_getElem hdm)
      have hjj : j / E.sz * E.sz + j % E.sz = j := by rw [Nat.mul_comm]; exact Nat.div_add_mod j E.sz
      have h3 := h2 (j % E.sz) hmod
      rw [hjj] at h3
      have hl := E.len h1
      have hj'' : j % E.sz < cs.length := by omega
      rw [List.getElem?_eq_getElem hj''] at h3
      simp only [news, List.getElem?_map, List.getElem?_range hj', Option.map_some, h3, Option.getD_some, Option.some.injEq] at hj
      rw [h3, hj]) (by
      intro u hu
      obtain ⟨j, hj0, hj⟩ := List.mem_iff_getElem.1 hu
      have hj' : j < ys.length * E.sz := by omega
      have hdm : j / E.sz < ys.length := Nat.div_lt_of_lt_mul (by rw [Nat.mul_comm]; exact hj')
      have hmod := Nat.mod_lt j E.pos
      obtain ⟨cs, h1, h2⟩ := hnews (j / E.sz) _ (List.getElem?_eq_getElem hdm)
      have hjj : j / E.sz * E.sz + j % E.sz = j := by rw [Nat.mul_comm]; exact Nat.div_add_mod j E.sz
      have h3 := h2 (j % E.sz) hmod
      rw [hjj, List.getElem?_eq_getElem hj0, hj] at h3
      exact E.one h1 u (List.mem_of_getElem? h3.symm)) (by simp only [maxLen]; omega) (by omega) (Nat.le_trans hbase hbw.size)
  obtain ⟨ao, cap, rfl, -, -⟩ := own_shape hown'
  unfold Oper.wp execOp
  simp only [ho, resolve, invoke, builtin, Sem.run_bind, Sem.run_pure, Result.andThen_ok, List.map_toArray, List.map_cons, List.map_nil, hs, hx, hr]
  exact h ao cap w' (own_append hv1 hv2 hbw hS hnews hown' hgrow hat) (Kept.of hgrow hlt hbw hbase hat)
end
end Go.Proofs.Ytadbdmnngmlnhaa
