/-
  The program: package slices at rows of terms: Clone, Delete, Insert, on rows of one's own.
-/
import Derived.Test.YtceipnlpofebmaaTmT
import Derived.Deep.RegionLaw
import Derived.Laws.CopyOwn
import Derived.Lib.SliceRun
import Derived.Lib.Overlaps
import Derived.Lib.AppendZerosOnto
namespace Go.Proofs.Ytceipnlpofebmaa
open Go Go.RowKit

/-! ### Blocks known whole -/
theorem splice_cons {α : Type} (L : List α) (o : Nat) (v : α) (r : List α) (h : o + (r.length + 1) ≤ L.length) : splice (L.set o v) (o + 1) r = splice L o (v :: r) := by
  unfold splice
  have h1 : (L.set o v).take (o + 1) = L.take o ++ [v] := by
    rw [List.take_succ_eq_append_getElem (by simp; omega), List.take_set_of_le (Nat.le_refl _)]; simp
  have h2 : (L.set o v).drop (o + 1 + r.length) = L.drop (o + (r.length + 1)) := by
    rw [List.drop_set_of_lt (by omega)]; congr 1; omega
  rw [h1, h2]; simp

theorem splice_take {α : Type} (L : List α) (o : Nat) (cs : List α) (h : o ≤ L.length) : (splice L o cs).take o = L.take o := by
  unfold splice
  exact List.take_left' (by rw [List.length_take]; omega)

theorem Row.setCells {T : TypeId} {g : Nat} : ∀ {vs : List Value} {o : Nat} {w : World} {cur : List Value}, Row T w g cur → o + vs.length ≤ cur.length → Row T (w.setCells g o vs) g (splice cur o vs)
  | [], o, w, cur, h, _ => by simpa [World.setCells, splice] using h
  | v :: r, o, w, cur, h, hl => by
    have h1 := Row.setCells (vs := r) (o := o + 1) (h.set o v) (by simp at hl ⊢; omega)
    rw [splice_cons cur o v r (by simpa using hl)] at h1
    exact h1

theorem grown_setCell (w : World) (g o : Nat) (v : Value) : w.grownBy (w.setCell ⟨g, o, none⟩ v) (some g) :=
  ⟨rfl, rfl, rfl, by simp, fun k _ hk => Below.heap_setCell _ _ _ _ (fun e => hk (by rw [e]))⟩
theorem grown_trans {w w1 w2 : World} {g : Option Nat} (h : w.grownBy w1 g) (h2 : w1.grownBy w2 g) : w.grownBy w2 g :=
  ⟨h2.os.trans h.os, h2.tape.trans h.tape, h2.output.trans h.output, Nat.le_trans h.size h2.size, fun k hk hne => (h2.block k (Nat.lt_of_lt_of_le hk h.size) hne).trans (h.block k hk hne)⟩
theorem grown_setCells (g : Nat) : ∀ (vs : List Value) (o : Nat) (w : World), w.grownBy (w.setCells g o vs) (some g)
  | [], _, _ => World.grownBy.refl _ _
  | v :: r, o, w => grown_trans (grown_setCell w g o v) (grown_setCells g r (o + 1) _)
theorem grown_alloc (w : World) (o : Obj) (g : Option Nat) : w.grownBy (w.alloc o) g := World.grownBy_alloc w o g
theorem grown_drew (w : World) (g : Option Nat) : w.grownBy w.drew g := ⟨rfl, rfl, rfl, Nat.le_refl _, fun _ _ _ => rfl⟩
theorem grown_below {B g : Nat} {w w' : World} (h : w.grownBy w' (some g)) (hg : B ≤ g) (hB : B ≤ w.heap.size) : Below B w w' :=
  ⟨h.os, h.tape, h.output, h.size, fun k hk => h.block k (by omega) (fun e => by simp at e; omega)⟩

/-! ### Runs -/
theorem run_copy_cells {P : Program} (w : World) (dT sT ty elem : TypeId) (g o dLen dCap sz : Nat) (ad : Addr) (sLen sCap : Nat) (cs : List Value)
    (hu : P.underlying dT = some (.slice elem)) (hs : (P.info? elem).map (·.size) = some sz) (hn : cs.length = Nat.min sLen dLen * sz)
    (hsrc : ∀ j v, cs[j]? = some v → w.cell? (ad.add j) = some v) (hd : ∀ j, j < cs.length → (w.cell? ⟨g, o + j, none⟩).isSome = true) (hf : ∀ j, j < cs.length → w.frozen? ⟨g, o + j, none⟩ = false) (h1 : ∀ v ∈ cs, v.oneCell' = true) :
    (Builtin.copy_ #[dT, sT] ty #[.slice (some ⟨g, o, none⟩) dLen dCap, .slice (some ad) sLen sCap]).run P w = .ok (goInt (Nat.min sLen dLen)) (w.setCells g o cs) := by
  have hst := run_storeCells_cells (P := P) g o cs 0 w (by simpa using hd) (by simpa using hf) h1
  have hfc := run_firstCells_some (P := P) (w := w) sz (Nat.min sLen dLen) ad sLen sCap cs hn hsrc
  simp only [Nat.add_zero] at hst
  cases hq : P.info? elem with
  | none => simp [hq] at hs
  | some i =>
    have hi : i.size = sz := by simpa [hq] using hs
    simp [Builtin.copy_, run_underlying hu, Builtin.lenOf, sizeOf, typeInfo, hq, hi, hfc, hst]

theorem run_clear_one {P : Program} (w : World) (t e ty : TypeId) (z : Value) (ht : P.underlying t = some (.slice e)) (hv : ∀ w, (zeroValue e).run P w = .ok z w) (hz : z.cells = #[z]) (h1 : z.oneCell' = true) (g o cp : Nat)
    (hc : (w.cell? ⟨g, o, none⟩).isSome = true) (hf : w.frozen? ⟨g, o, none⟩ = false) :
    (Builtin.clear_ #[t] ty #[.slice (some ⟨g, o, none⟩) 1 cp]).run P w = .ok (.tuple #[]) (w.setCells g o [z]) := by
  have hzc : (Builtin.zeroCells z.cells 1).toList = [z] := by
    rw [hz]
    apply List.ext_getElem
    · simp [Builtin.zeroCells]
    · intro i h1 h2
      simp only [List.length_cons, List.length_nil] at h2
      obtain rfl : i = 0 := by omega
      simp [Builtin.zeroCells]
  have hst := run_storeCells_cells (P := P) g o [z] 0 w (by intro j hj; obtain rfl : j = 0 := (by simp at hj; omega); simpa using hc) (by intro j hj; obtain rfl : j = 0 := (by simp at hj; omega); simpa using hf) (by intro v hv'; simp at hv'; subst hv'; exact h1)
  simp only [Nat.add_zero] at hst
  simp [Builtin.clear_, run_underlying ht, hv, hzc, hst]

theorem zeroR (w : World) : (zeroValue 24).run Try.prog w = .ok (.slice none 0 0) w := by kernel_rfl

set_option maxHeartbeats 4000000 in
set_option maxRecDepth 1000000 in
theorem delete_spec {w : World} {g cap M k : Nat} {cur : List Value} (hR : Row 24 w g cur) (hcl : cur.length = cap) (hL : M + 1 ≤ cap) (hk : k < M + 1) (hm : cap ≤ maxLen) (h1 : ∀ u ∈ cur.take ((M + 1)), u.oneCell' = true) :
    Calls Try.prog 23 #[.slice (some ⟨g, 0, none⟩) (M + 1) cap, .int .i64 k, .int .i64 ((k : Int) + 1)] w
      (fun e w' => e = .returned (.slice (some ⟨g, 0, none⟩) M cap) ∧ w.grownBy w' (some g) ∧ ∃ cur', Row 24 w' g cur' ∧ cur'.length = cap ∧ cur'.take (M) = cur.take (k) ++ (cur.take ((M + 1))).drop ((k + 1))) := by
  unfold maxLen at hm
  obtain ⟨i0, hi0, hz0, hz1, hz2⟩ := info_parts infoSeq
  obtain ⟨news, hnews⟩ : ∃ news, news = (cur.take ((M + 1))).drop ((k + 1)) := ⟨_, rfl⟩
  have hnl : news.length = (M - k) := by rw [hnews, List.length_drop, List.length_take]; omega
  have hng : ∀ j, j < news.length → news[j]? = cur[(k + 1) + j]? := by
    intro j hj
    rw [hnews, List.getElem?_drop, List.getElem?_take_of_lt (by omega)]
  have hcell : ∀ j, j < cap → w.cell? ⟨g, j, none⟩ = cur[j]? := by
    intro j hj
    rw [hR.cell (j := j) (by omega), List.getElem?_eq_getElem (by omega : j < cur.length)]
  obtain ⟨A, hA, hsrc⟩ : ∃ A : Addr, (if cap = k + 1 then some (⟨g, 0, none⟩ : Addr) else some ⟨g, (k + 1), none⟩) = some A ∧ Hid (∀ j u, news[j]? = some u → w.drew.cell? (A.add j) = some u) := by
    by_cases h : cap = k + 1
    · refine ⟨⟨g, 0, none⟩, by simp [h], fun j u hu => ?_⟩
      have := (List.getElem?_eq_some_iff.1 hu).1
      omega
    · refine ⟨⟨g, (k + 1), none⟩, by simp [h], fun j u hu => ?_⟩
      have hj := (List.getElem?_eq_some_iff.1 hu).1
      rw [Addr.add_lit, show w.drew.cell? = w.cell? from rfl, hcell _ (by omega), ← hng j hj, hu]
  have s1 : Hid (news.length = (M - k) * 1) := by rw [Nat.mul_one]; exact hnl
  have s2 : Hid (∀ u ∈ news, u.oneCell' = true) := by
    intro u hu
    rw [hnews] at hu
    exact h1 u (List.mem_of_mem_drop hu)
  have s3 : Hid (∀ j, j < news.length → (w.drew.cell? ⟨g, 0 + k * 1 + j, none⟩).isSome = true ∧ w.drew.frozen? ⟨g, 0 + k * 1 + j, none⟩ = false) := by
    intro j hj
    rw [Nat.zero_add, Nat.mul_one]
    refine ⟨?_, hR.frozen _⟩
    show (w.cell? _).isSome = true
    rw [hcell _ (by omega), List.getElem?_eq_getElem (by omega : k + j < cur.length)]; rfl
  have hkc : ¬ cap = k := by omega
  have hic : k ≤ cap := by omega
  have hic2 : (k : Int) ≤ ((M : Int) + 1) := by omega
  have hwr : IntKind.i64.wrap ((k : Int) + 1) = (k : Int) + 1 := by rw [IntKind.wrap_i64]; omega
  have hp0 : (0 : Int) ≤ (k : Int) + 1 := by omega
  have hp1 : (k : Int) + 1 ≤ ((M : Int) + 1) := by omega
  have hp2 : ((k : Int) + 1).toNat = k + 1 := by omega
  have hne : ((k : Int) == (k : Int) + 1) = false := by rw [beq_eq_false_iff_ne]; omega
  have hfin : (splice cur (k) news).take (M) = cur.take (k) ++ (cur.take ((M + 1))).drop ((k + 1)) := by
    rw [← hnews]
    unfold splice
    rw [← List.append_assoc]
    exact List.take_left' (by rw [List.length_append, hnl, List.length_take]; omega)
  have Hfin := Lib.hid hfin
  have Hnews := Lib.hid hnews
  clear hfin
  have HR := Lib.hid hR
  have Hcell := Lib.hid hcell
  have Hng := Lib.hid hng
  have Hnl := Lib.hid hnl
  clear hcell hng hnl hR h1 hnews
  go_enter Try.func23, Try.ntmps23
  go_wp2_with fail
  go_region_law (refine step_append_room rfl (.tmp 22) (.tmp 25) 22 rfl 24 i0 1 Try.underlying22 hi0 hz1 g 0 k cap (by simp [Act.eval, Act.put]) A (M - k) (cap - (k + 1)) news (by simp [Act.eval, Act.put]) s1.out hsrc.out s2.out (by omega) s3.out ?_)
  rw [show k + (M - k) = M by omega]
  obtain ⟨W1, hW1⟩ : ∃ W1, W1 = w.drew.setCells g (k) news := ⟨_, rfl⟩
  have R1 : Row 24 W1 g (splice cur (k) news) := by
    rw [hW1]
    exact Row.setCells (w := w.drew) (show Row 24 w.drew g cur from HR.out) (by have := Hnl.out; omega)
  have G1 : w.grownBy W1 (some g) := by rw [hW1]; exact grown_trans (grown_drew _ _) (grown_setCells _ _ _ _)
  have l1 : (splice cur (k) news).length = cap := by rw [length_splice _ _ _ (by have := Hnl.out; omega)]; exact hcl
  have hclr : ∀ ty, (Builtin.clear_ #[22] ty #[.slice (some ⟨g, M, none⟩) 1 (cap - M)]).run Try.prog W1 = .ok (.tuple #[]) (W1.setCells g (M) [.slice none 0 0]) :=
    fun ty => run_clear_one W1 _ _ ty _ Try.underlying22 zeroR rfl rfl g M (cap - M) (by rw [R1.cell (j := M) (by omega)]; rfl) (R1.frozen _)
  have R2 := R1.setCells (vs := [.slice none 0 0]) (o := M) (by rw [l1]; simp; omega)
  have G2 := grown_trans G1 (grown_setCells g [.slice none 0 0] (M) W1)
  have l2 : (splice (splice cur (k) news) (M) [.slice none 0 0]).length = cap := by rw [length_splice _ _ _ (by rw [l1]; simp; omega)]; exact l1
  have HR2 := Lib.hid R2
  have HG2 := Lib.hid G2
  have Hl2 := Lib.hid l2
  have Hl1 := Lib.hid (show M ≤ (splice cur (k) news).length by rw [l1]; omega)
  rw [← hW1]
  have hmc : ¬ cap = M := by omega
  clear hW1 R1 G1 l1 R2 G2 l2 hcl
  go_wp2_with fail
  go_ret
  refine ⟨rfl, HG2.out, _, HR2.out, Hl2.out, ?_⟩
  rw [splice_take _ _ _ Hl1.out, Hfin.out]

section
variable {P : Program} {ops : Array Oper} {rest : List Oper} {o : Oper} {a : Act} {w : World} {K : Act → World → Prop} {Q : Exit → Act → World → Prop} {E : Prop}
theorem step_copy_cells (hgd : o.guard = none) (d s : Operand) (dT sT : TypeId) (ho : o.op = .call { callee := .builtin .copy, args := #[d, s], argTypes := #[dT, sT] }) (elem : TypeId)
    (hu : P.underlying dT = some (.slice elem)) (sz : Nat) (hs : (P.info? elem).map (·.size) = some sz) (g off dLen dCap : Nat) (ad : Addr) (sLen sCap : Nat) (hd : a.eval d = .slice (some ⟨g, off, none⟩) dLen dCap) (hsrc : a.eval s = .slice (some ad) sLen sCap)
    (cs : List Value) (hn : cs.length = Nat.min sLen dLen * sz) (hc : ∀ j v, cs[j]? = some v → w.cell? (ad.add j) = some v) (hdc : ∀ j, j < cs.length → (w.cell? ⟨g, off + j, none⟩).isSome = true ∧ w.frozen? ⟨g, off + j, none⟩ = false) (h1 : ∀ v ∈ cs, v.oneCell' = true)
    (hK : K (a.put o.dst (goInt (Nat.min sLen dLen))) (w.setCells g off cs)) : if Region.wanted o (yielded ops a.tmps) = true then Oper.wp P o a w K Q else E := by
  rw [if_pos (by simp [Region.wanted, hgd])]
  have hrun := run_copy_cells (P := P) w dT sT o.type elem g off dLen dCap sz ad sLen sCap cs hu hs hn hc (fun j hj => (hdc j hj).1) (fun j hj => (hdc j hj).2) h1
  unfold Oper.wp
  simp [execOp, ho, resolve, invoke, builtin, hd, hsrc, hrun, Result.andThen]
  exact hK
theorem wpList_copy_cells (hgd : o.guard = none) (d s : Operand) (dT sT : TypeId) (ho : o.op = .call { callee := .builtin .copy, args := #[d, s], argTypes := #[dT, sT] }) (elem : TypeId)
    (hu : P.underlying dT = some (.slice elem)) (sz : Nat) (hs : (P.info? elem).map (·.size) = some sz) (g off dLen dCap : Nat) (ad : Addr) (sLen sCap : Nat) (hd : a.eval d = .slice (some ⟨g, off, none⟩) dLen dCap) (hsrc : a.eval s = .slice (some ad) sLen sCap)
    (cs : List Value) (hn : cs.length = Nat.min sLen dLen * sz) (hc : ∀ j v, cs[j]? = some v → w.cell? (ad.add j) = some v) (hdc : ∀ j, j < cs.length → (w.cell? ⟨g, off + j, none⟩).isSome = true ∧ w.frozen? ⟨g, off + j, none⟩ = false) (h1 : ∀ v ∈ cs, v.oneCell' = true)
    (hK : ∀ w', w' = w.setCells g off cs → wpList P ops Q rest (a.put o.dst (goInt (Nat.min sLen dLen))) w') : wpList P ops Q (o :: rest) a w := by
  refine wpList_plain hgd fun K' hK' => ?_
  have hrun := run_copy_cells (P := P) w dT sT o.type elem g off dLen dCap sz ad sLen sCap cs hu hs hn hc (fun j hj => (hdc j hj).1) (fun j hj => (hdc j hj).2) h1
  unfold Oper.wp
  simp [execOp, ho, resolve, invoke, builtin, hd, hsrc, hrun, Result.andThen]
  exact hK' _ _ (hK _ rfl)
theorem wpList_append_room (hgd : o.guard = none) (s x : Operand) (t : TypeId) (ho : o.op = .call { callee := .builtin .append, args := #[s, x], argTypes := #[t, t] }) (e : TypeId) (i : TypeInfo) (size : Nat)
    (h1 : P.underlying t = some (.slice e)) (h2 : P.info? e = some i) (h4 : i.size = size) (b off n cap : Nat) (hs : a.eval s = .slice (some ⟨b, off, none⟩) n cap) (ad : Addr) (m c : Nat) (news : List Value) (hx : a.eval x = .slice (some ad) m c) (hn : news.length = m * size)
    (hc : ∀ j u, news[j]? = some u → w.cell? (ad.add j) = some u) (h1c : ∀ u ∈ news, u.oneCell' = true) (hroom : n + m ≤ cap) (hspare : ∀ j, j < news.length → (w.cell? ⟨b, off + n * size + j, none⟩).isSome = true ∧ w.frozen? ⟨b, off + n * size + j, none⟩ = false)
    (hK : ∀ w', w' = w.setCells b (off + n * size) news → wpList P ops Q rest (a.put o.dst (.slice (some ⟨b, off, none⟩) (n + m) cap)) w') : wpList P ops Q (o :: rest) a w := by
  refine wpList_plain hgd fun K' hK' => ?_
  subst h4
  have hrun := run_append_room_cells (P := P) w t o.type e i h1 h2 b off n cap ad m c news hn hc h1c hroom (fun j hj => (hspare j hj).1) (fun j hj => (hspare j hj).2)
  unfold Oper.wp
  simp [execOp, ho, resolve, invoke, builtin, hs, hx, hrun, Result.andThen]
  exact hK' _ _ (hK _ rfl)
end

set_option maxHeartbeats 4000000 in
set_option maxRecDepth 1000000 in
theorem insert_end {w : World} {g cap n vb : Nat} {cur : List Value} {x : Value} (hR : Row 24 w g cur) (hcl : cur.length = cap) (hn : n < cap) (hV : Row 24 w vb [x]) (h1 : x.oneCell' = true) :
    Calls Try.prog 19 #[.slice (some ⟨g, 0, none⟩) n cap, .int .i64 n, .slice (some ⟨vb, 0, none⟩) 1 1] w
      (fun e w' => e = .returned (.slice (some ⟨g, 0, none⟩) (n + 1) cap) ∧ w.grownBy w' (some g) ∧ ∃ cur', Row 24 w' g cur' ∧ cur'.length = cap ∧ cur'.take ((n + 1)) = cur.take (n) ++ [x]) := by
  obtain ⟨i0, hi0, hz0, hz1, hz2⟩ := info_parts infoSeq
  have s1 : Hid (∀ j u, [x][j]? = some u → w.cell? ((⟨vb, 0, none⟩ : Addr).add j) = some u) := by
    intro j u hu
    have hj := (List.getElem?_eq_some_iff.1 hu).1
    rw [Addr.add_lit, Nat.zero_add, hV.cell hj, ← hu, List.getElem?_eq_getElem hj]
  have s2 : Hid (∀ u ∈ [x], u.oneCell' = true) := by
    intro u hu; simp at hu; subst hu; exact h1
  have s3 : Hid (∀ j, j < [x].length → (w.cell? ⟨g, 0 + n * 1 + j, none⟩).isSome = true ∧ w.frozen? ⟨g, 0 + n * 1 + j, none⟩ = false) := by
    intro j hj
    simp only [List.length_cons, List.length_nil] at hj
    refine ⟨?_, hR.frozen _⟩
    rw [hR.cell (j := 0 + n * 1 + j) (by omega)]; rfl
  have hnc : ¬ cap = n := by omega
  have HR := Lib.hid hR
  have Hcl := Lib.hid hcl
  clear hR hV h1 hcl
  go_enter Try.func19, Try.ntmps19
  go_wp2_with (at_builtin; refine wpList_append_room rfl _ _ 22 rfl 24 i0 1 Try.underlying22 hi0 hz1 g 0 n cap rfl ⟨vb, 0, none⟩ 1 1 [x] rfl rfl s1.out s2.out (by omega) s3.out ?_)
  go_ret
  refine ⟨rfl, grown_setCells _ _ _ _, _, Row.setCells HR.out (by rw [Hcl.out]; simp; omega), by rw [length_splice _ _ _ (by rw [Hcl.out]; simp; omega)]; exact Hcl.out, ?_⟩
  unfold splice
  rw [← List.append_assoc]
  exact List.take_left' (by rw [List.length_append, List.length_take, Hcl.out]; simp; omega)

theorem splice_ins {cur : List Value} {cap n i : Nat} {x : Value} (hcl : cur.length = cap) (hn : n < cap) (hi : i < n) :
    (splice (splice cur ((i + 1)) ((cur.take (n)).drop (i))) (i) [x]).take ((n + 1)) = cur.take (i) ++ [x] ++ (cur.take (n)).drop (i) := by
  have l0 : ((cur.take (n)).drop (i)).length = (n - i) := by rw [List.length_drop, List.length_take]; omega
  have e1 : splice cur ((i + 1)) ((cur.take (n)).drop (i)) = cur.take ((i + 1)) ++ ((cur.take (n)).drop (i) ++ cur.drop ((n + 1))) := by
    unfold splice; rw [l0]; congr 3; omega
  have l1 : (cur.take ((i + 1))).length = (i + 1) := by rw [List.length_take]; omega
  have l2 : (cur.take (i)).length = i := by rw [List.length_take]; omega
  have e2 : (splice cur ((i + 1)) ((cur.take (n)).drop (i))).take (i) = cur.take (i) := by
    rw [e1, List.take_append_of_le_length (by omega), List.take_take]; congr 1; omega
  have e3 : (splice cur ((i + 1)) ((cur.take (n)).drop (i))).drop (i + [x].length) = (cur.take (n)).drop (i) ++ cur.drop ((n + 1)) := by
    rw [e1]; exact List.drop_left' (by rw [l1]; simp)
  rw [splice, e2, e3, ← List.append_assoc, ← List.append_assoc]
  exact List.take_left' (by rw [List.length_append, List.length_append, l2, l0]; simp; omega)

set_option maxHeartbeats 4000000 in
set_option maxRecDepth 1000000 in
theorem insert_mid {w : World} {g cap n i vb : Nat} {cur : List Value} {x : Value} (hR : Row 24 w g cur) (hcl : cur.length = cap) (hn : n < cap) (hi : i < n) (hm : cap ≤ maxLen) (hV : Row 24 w vb [x]) (hne : vb ≠ g) (h1 : x.oneCell' = true) (h2 : ∀ u ∈ cur.take (n), u.oneCell' = true) :
    Calls Try.prog 19 #[.slice (some ⟨g, 0, none⟩) n cap, .int .i64 i, .slice (some ⟨vb, 0, none⟩) 1 1] w
      (fun e w' => e = .returned (.slice (some ⟨g, 0, none⟩) (n + 1) cap) ∧ w.grownBy w' (some g) ∧ ∃ cur', Row 24 w' g cur' ∧ cur'.length = cap ∧ cur'.take ((n + 1)) = cur.take (i) ++ [x] ++ (cur.take (n)).drop (i)) := by
  unfold maxLen at hm
  obtain ⟨i0, hi0, hz0, hz1, hz2⟩ := info_parts infoSeq
  have hsz : (Try.prog.info? 24).map (·.size) = some 1 := by rw [hi0]; simp [hz1]
  have hov : ∀ lb cb, (callFunc 38 #[.slice (some ⟨vb, 0, none⟩) 1 1, .slice (some ⟨g, (i + 1), none⟩) lb cb]).run Try.prog w = .ok (.value (.bool false)) w := by
    intro lb cb
    rw [run_callFunc_extern Try.func38 (by kernel_rfl) (by kernel_rfl) (by kernel_rfl) (e := Extern.SlicesOverlaps.overlaps #[22, 22] #[4]) (by kernel_rfl),
      Lib.run_overlaps_apart (P := Try.prog) w 22 4 24 Try.underlying22 1 (fun _ => by kernel_rfl) ⟨vb, 0, none⟩ ⟨g, (i + 1), none⟩ 1 1 lb cb hne 24 24 1 cap (by unfold Row at hV; simp [World.shape?, hV]) (by unfold Row at hR; simp [World.shape?, hR, hcl]) (by omega) (hV.frozen 0) (hV.frozen 1)]
    rfl
  have hk0 : ((i : Int) == (n : Int)) = false := by rw [beq_eq_false_iff_ne]; omega
  have hk1 : ¬ cap = i := by omega
  have hk2 : ¬ cap = i + 1 := by omega
  have hk3 : n + 1 ≤ cap := by omega
  have hk4 : i + 1 ≤ n + 1 := by omega
  have hk5 : (i : Int) + 1 ≤ (n : Int) + 1 := by omega
  have hk7 : (i : Int) ≤ (n : Int) + 1 := by omega
  have hk6 : ¬ (cap : Int) < (n : Int) + 1 := by omega
  have hp0 : (0 : Int) ≤ (i : Int) + 1 := by omega
  have hp2 : ((i : Int) + 1).toNat = i + 1 := by omega
  have hwr : IntKind.i64.wrap ((i : Int) + 1) = (i : Int) + 1 := by rw [IntKind.wrap_i64]; omega
  obtain ⟨cs, hcs⟩ : ∃ cs, cs = (cur.take (n)).drop (i) := ⟨_, rfl⟩
  have lcs : cs.length = (n - i) := by rw [hcs, List.length_drop, List.length_take]; omega
  have a1 : Hid (cs.length = Nat.min (n + 1 - i) (n - i) * 1) := by rw [show Nat.min (n + 1 - i) (n - i) = n - i from Nat.min_eq_right (by omega), Nat.mul_one]; exact lcs
  have hcell : ∀ j, j < cap → w.cell? ⟨g, j, none⟩ = cur[j]? := by
    intro j hj
    rw [hR.cell (j := j) (by omega), List.getElem?_eq_getElem (by omega : j < cur.length)]
  have a2 : Hid (∀ j v, cs[j]? = some v → w.drew.cell? ((⟨g, i, none⟩ : Addr).add j) = some v) := by
    intro j v hv
    have hj := (List.getElem?_eq_some_iff.1 hv).1
    rw [Addr.add_lit, show w.drew.cell? = w.cell? from rfl, hcell _ (by omega), ← hv, hcs, List.getElem?_drop, List.getElem?_take_of_lt (by omega)]
  have a3 : Hid (∀ j, j < cs.length → (w.drew.cell? ⟨g, (i + 1) + j, none⟩).isSome = true ∧ w.drew.frozen? ⟨g, (i + 1) + j, none⟩ = false) := by
    intro j hj
    refine ⟨?_, hR.frozen _⟩
    show (w.cell? _).isSome = true
    rw [hcell _ (by omega), List.getElem?_eq_getElem (by omega : (i + 1) + j < cur.length)]; rfl
  have a4 : Hid (∀ v ∈ cs, v.oneCell' = true) := by
    intro u hu
    rw [hcs] at hu
    exact h2 u (List.mem_of_mem_drop hu)
  have hfin := Lib.hid (splice_ins (x := x) hcl hn hi)
  rw [← hcs] at hfin
  obtain ⟨W1, hW1⟩ : ∃ W1, W1 = w.drew.setCells g ((i + 1)) cs := ⟨_, rfl⟩
  have R1 : Row 24 W1 g (splice cur ((i + 1)) cs) := by
    rw [hW1]
    exact Row.setCells (w := w.drew) (show Row 24 w.drew g cur from hR) (by omega)
  have G1 : w.grownBy W1 (some g) := by rw [hW1]; exact grown_trans (grown_drew _ _) (grown_setCells _ _ _ _)
  have l1 : (splice cur ((i + 1)) cs).length = cap := by rw [length_splice _ _ _ (by omega)]; exact hcl
  have V1 : Row 24 W1 vb [x] := hV.at (G1.block vb hV.lt (fun e => hne (by simpa using e)))
  have b1 : Hid ([x].length = Nat.min 1 (n + 1 - i) * 1) := by rw [show Nat.min 1 (n + 1 - i) = 1 from Nat.min_eq_left (by omega)]; rfl
  have b2 : Hid (∀ j u, [x][j]? = some u → W1.cell? ((⟨vb, 0, none⟩ : Addr).add j) = some u) := by
    intro j u hu
    have hj := (List.getElem?_eq_some_iff.1 hu).1
    rw [Addr.add_lit, Nat.zero_add, V1.cell hj, ← hu, List.getElem?_eq_getElem hj]
  have b3 : Hid (∀ j, j < [x].length → (W1.cell? ⟨g, i + j, none⟩).isSome = true ∧ W1.frozen? ⟨g, i + j, none⟩ = false) := by
    intro j hj
    simp only [List.length_cons, List.length_nil] at hj
    refine ⟨?_, R1.frozen _⟩
    rw [R1.cell (j := i + j) (by omega)]; rfl
  have b4 : Hid (∀ u ∈ [x], u.oneCell' = true) := by
    intro u hu; simp at hu; subst hu; exact h1
  have R2 := Lib.hid (R1.setCells (vs := [x]) (o := i) (by rw [l1]; simp; omega))
  have G2 := Lib.hid (grown_trans G1 (grown_setCells g [x] (i) W1))
  have l2 := Lib.hid (show (splice (splice cur ((i + 1)) cs) (i) [x]).length = cap by rw [length_splice _ _ _ (by rw [l1]; simp; omega)]; exact l1)
  have HW1 := Lib.hid hW1
  have Hcs := Lib.hid hcs
  clear hcs lcs hcell hW1 R1 G1 l1 V1
  have HR := Lib.hid hR
  have HV := Lib.hid hV
  have Hcl := Lib.hid hcl
  have H1 := Lib.hid h1
  have H2 := Lib.hid h2
  clear hR hV h1 h2 hcl
  go_enter Try.func19, Try.ntmps19
  go_wp2_with fail
  go_region_law (refine step_copy_cells rfl (.tmp 73) (.tmp 76) 22 22 rfl 24 Try.underlying22 1 hsz g ((i + 1)) (n - i) (cap - (i + 1)) ⟨g, i, none⟩ (n + 1 - i) (cap - i) (by simp [Act.eval, Act.put]) (by simp [Act.eval, Act.put]) cs a1.out a2.out a3.out a4.out ?_)
  rw [← HW1.out]
  go_wp2_with (refine wpList_copy_cells rfl (.tmp 80) (.tmp 81) 22 22 rfl 24 Try.underlying22 1 hsz g (i) (n + 1 - i) (cap - i) ⟨vb, 0, none⟩ 1 1 rfl rfl [x] b1.out b2.out b3.out b4.out ?_)
  go_ret
  exact ⟨rfl, G2.out, _, R2.out, l2.out, by rw [hfin.out, Hcs.out]⟩

theorem insert_spec {w : World} {g cap n i vb : Nat} {cur : List Value} {x : Value} (hR : Row 24 w g cur) (hcl : cur.length = cap) (hn : n < cap) (hi : i ≤ n) (hm : cap ≤ maxLen) (hV : Row 24 w vb [x]) (hne : vb ≠ g) (h1 : x.oneCell' = true) (h2 : ∀ u ∈ cur.take (n), u.oneCell' = true) :
    Calls Try.prog 19 #[.slice (some ⟨g, 0, none⟩) n cap, .int .i64 i, .slice (some ⟨vb, 0, none⟩) 1 1] w
      (fun e w' => e = .returned (.slice (some ⟨g, 0, none⟩) (n + 1) cap) ∧ w.grownBy w' (some g) ∧ ∃ cur', Row 24 w' g cur' ∧ cur'.length = cap ∧ cur'.take ((n + 1)) = cur.take (i) ++ [x] ++ (cur.take (n)).drop (i)) := by
  rcases Nat.lt_or_eq_of_le hi with h | rfl
  · exact insert_mid hR hcl hn h hm hV hne h1 h2
  · refine (insert_end hR hcl hn hV h1).mono ?_
    rintro e w' ⟨h3, h4, cur', h5, h6, h7⟩
    refine ⟨h3, h4, cur', h5, h6, ?_⟩
    rw [h7, List.drop_eq_nil_of_le (by rw [List.length_take]; omega), List.append_nil]

/-! ### Clone -/
set_option maxHeartbeats 1600000 in
set_option maxRecDepth 100000 in
theorem cloneT_spec {S : Nat → Prop} {w : World} {v : Value} {l : List (List Cell)} (hl : Seq (seqE cellE) S w v l) (hlen : l.length ≤ 1000000000) :
    Calls Try.prog 20 #[v] w (Ret (fun o w' => Own (seqE cellE) (fun b => S b ∧ b < w.heap.size) w.heap.size 24 w' o l) w) := by
  have hb := Lib.hid hl.bnd
  obtain ⟨ao, cap, rfl, h1, h2, h3, h4, h5⟩ := hl
  cases ao with
  | none =>
    obtain rfl := h4 rfl
    have hl0 : l.length = 0 := by omega
    have hn := Lib.hid (List.eq_nil_of_length_eq_zero hl0)
    have hnil := fun (w : World) (a : Option Addr) (n c n' c' : Nat) => Lib.run_eql_slice_nil (P := Try.prog) w 22 24 a n c n' c' Try.underlying22
    clear h5 h4
    go_enter Try.func20, Try.ntmps20
    go_wp2_with fail
    go_ret
    exact ⟨_, rfl, Below.refl _ _, by rw [hn.out]; exact Own.nil _ _ _ _ _⟩
  | some ad =>
    clear h5 h4
    have hown : Own (seqE cellE) (fun b => S b ∧ b < w.heap.size) w.heap.size 24 (w.alloc (.cells #[] 24)) (.slice (some ⟨w.heap.size, 0, none⟩) 0 0) ([] : List (List Cell)) := Own.lit0 rfl (Nat.le_refl _) rfl
    have hba := Lib.hid (hb.out.at (Seq.way (w' := w.alloc (.cells #[] 24))))
    have hnil := fun (w : World) (a : Option Addr) (n c n' c' : Nat) => Lib.run_eql_slice_nil (P := Try.prog) w 22 24 a n c n' c' Try.underlying22
    go_enter Try.func20, Try.ntmps20
    go_wp2_with (at_builtin; refine wpList_appL (wm := w.alloc (.cells #[] 24)) (zs := l) rfl _ _ 22 rfl Try.underlying22 infoSeq rfl rfl hown (Below.refl _ _) rfl hba.out (fun b h _ => ⟨h, .inl h.2⟩) rfl (by omega) (by omega) (by simp) ?_)
    intro ao' cap' w' hown' hkept
    have hb' := (Seq.way (w := w) (w' := w.alloc (.cells #[] 24)) (B := w.heap.size)).trans hkept.below
    have Hown := Lib.hid hown'
    clear hown hown' hkept hba
    go_wp2_with fail
    go_ret
    exact ⟨_, rfl, hb', Hown.out⟩

/-! ### Clone -/
theorem infoCellU : (Try.prog.info? 35).map (fun i => (i.zero, i.size, i.bytes)) = some (some (.agg #[.int .i64 0, .string ⟨#[]⟩, .int .i64 0]), 3, 32) := by kernel_rfl
set_option maxHeartbeats 1600000 in
set_option maxRecDepth 100000 in
theorem cloneC_spec {S : Nat → Prop} {w : World} {v : Value} {l : List (Cell)} (hl : Seq (cellE) S w v l) (hlen : l.length ≤ 1000000000) :
    Calls Try.prog 21 #[v] w (Ret (fun o w' => Own (cellE) (fun b => S b ∧ b < w.heap.size) w.heap.size 35 w' o l) w) := by
  have hb := Lib.hid hl.bnd
  obtain ⟨ao, cap, rfl, h1, h2, h3, h4, h5⟩ := hl
  cases ao with
  | none =>
    obtain rfl := h4 rfl
    have hl0 : l.length = 0 := by omega
    have hn := Lib.hid (List.eq_nil_of_length_eq_zero hl0)
    have hnil := fun (w : World) (a : Option Addr) (n c n' c' : Nat) => Lib.run_eql_slice_nil (P := Try.prog) w 24 35 a n c n' c' Try.underlying24
    clear h5 h4
    go_enter Try.func21, Try.ntmps21
    go_wp2_with fail
    go_ret
    exact ⟨_, rfl, Below.refl _ _, by rw [hn.out]; exact Own.nil _ _ _ _ _⟩
  | some ad =>
    clear h5 h4
    have hown : Own (cellE) (fun b => S b ∧ b < w.heap.size) w.heap.size 35 (w.alloc (.cells #[] 35)) (.slice (some ⟨w.heap.size, 0, none⟩) 0 0) ([] : List (Cell)) := Own.lit0 rfl (Nat.le_refl _) rfl
    have hba := Lib.hid (hb.out.at (Seq.way (w' := w.alloc (.cells #[] 35))))
    have hnil := fun (w : World) (a : Option Addr) (n c n' c' : Nat) => Lib.run_eql_slice_nil (P := Try.prog) w 24 35 a n c n' c' Try.underlying24
    go_enter Try.func21, Try.ntmps21
    go_wp2_with (at_builtin; refine wpList_appL (wm := w.alloc (.cells #[] 35)) (zs := l) rfl _ _ 24 rfl Try.underlying24 infoCellU rfl rfl hown (Below.refl _ _) rfl hba.out (fun b h _ => ⟨h, .inl h.2⟩) rfl (by omega) (by omega) (by simp) ?_)
    intro ao' cap' w' hown' hkept
    have hb' := (Seq.way (w := w) (w' := w.alloc (.cells #[] 35)) (B := w.heap.size)).trans hkept.below
    have Hown := Lib.hid hown'
    clear hown hown' hkept hba
    go_wp2_with fail
    go_ret
    exact ⟨_, rfl, hb', Hown.out⟩
end Go.Proofs.Ytceipnlpofebmaa
