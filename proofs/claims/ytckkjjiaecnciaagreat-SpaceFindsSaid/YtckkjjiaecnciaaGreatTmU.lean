/-
  The program: package slices at rows of terms: Clone, Delete, Insert, on rows of one's own.
-/
import Derived.Test.YtckkjjiaecnciaaGreatTmT
import Derived.Deep.RegionLaw
import Derived.Laws.CopyOwn
import Derived.Lib.SliceRun
import Derived.Lib.Overlaps
import Derived.Lib.AppendZerosOnto
namespace Go.Proofs.YtckkjjiaecnciaaGreat
open Go Go.RowKit

/-! ### Blocks known whole -/
theorem splice_cons {α : Type} (L : List α) (o : Nat) (v : α) (r : List α) (h : o + (r.length + 1) ≤ L.length) : splice (L.set o v) (o + 1) r = splice L o (v :: r) := by
  unfold splice
  have h1 : (L.set o v).take (o + 1) = L.take o ++ [v] := by
    rw [List.take_succ_eq_append_getElem (by simp; omega), List.take_set_of_le (Nat.le_refl _)]; simp
  have h2 : (L.set o v).drop (o + 1 + r.length) = L.drop (o + (r.length + 1)) := by
    rw [List.drop_set_of_lt (by omega)]; congr 1; omega
  rw [h1, h2]; simp

theorem splice_take {α : Type} (L : List α) (o : Nat) (cs : List α) (h : o ≤ L.length) : (splice L o cs).take o = L.take o := by
  unfold splice
  exact List.take_left' (by rw [List.length_take]; omega)

theorem Row.setCells {T : TypeId} {g : Nat} : ∀ {vs : List Value} {o : Nat} {w : World} {cur : List Value}, Row T w g cur → o + vs.length ≤ cur.length → Row T (w.setCells g o vs) g (splice cur o vs)
  | [], o, w, cur, h, _ => by simpa [World.setCells, splice] using h
  | v :: r, o, w, cur, h, hl => by
    have h1 := Row.setCells (vs := r) (o := o + 1) (h.set o v) (by simp at hl ⊢; omega)
    rw [splice_cons cur o v r (by simpa using hl)] at h1
    exact h1

theorem grown_setCell (w : World) (g o : Nat) (v : Value) : w.grownBy (w.setCell ⟨g, o, none⟩ v) (some g) :=
  ⟨rfl, rfl, rfl, by simp, fun k _ hk => Below.heap_setCell _ _ _ _ (fun e => hk (by rw [e]))⟩
theorem grown_trans {w w1 w2 : World} {g : Option Nat} (h : w.grownBy w1 g) (h2 : w1.grownBy w2 g) : w.grownBy w2 g :=
  ⟨h2.os.trans h.os, h2.tape.trans h.tape, h2.output.trans h.output, Nat.le_trans h.size h2.size, fun k hk hne => (h2.block k (Nat.lt_of_lt_of_le hk h.size) hne).trans (h.block k hk hne)⟩
theorem grown_setCells (g : Nat) : ∀ (vs : List Value) (o : Nat) (w : World), w.grownBy (w.setCells g o vs) (some g)
  | [], _, _ => World.grownBy.refl _ _
  | v :: r, o, w => grown_trans (grown_setCell w g o v) (grown_setCells g r (o + 1) _)
theorem grown_alloc (w : World) (o : Obj) (g : Option Nat) : w.grownBy (w.alloc o) g := World.grownBy_alloc w o g
theorem grown_drew (w : World) (g : Option Nat) : w.grownBy w.drew g := ⟨rfl, rfl, rfl, Nat.le_refl _, fun _ _ _ => rfl⟩
theorem grown_below {B g : Nat} {w w' : World} (h : w.grownBy w' (some g)) (hg : B ≤ g) (hB : B ≤ w.heap.size) : Below B w w' :=
  ⟨h.os, h.tape, h.output, h.size, fun k hk => h.block k (by omega) (fun e => by simp at e; omega)⟩

/-! ### Runs -/
theorem run_copy_cells {P : Program} (w : World) (dT sT ty elem : TypeId) (g o dLen dCap sz : Nat) (ad : Addr) (sLen sCap : Nat) (cs : List Value)
    (hu : P.underlying dT = some (.slice elem)) (hs : (P.info? elem).map (·.size) = some sz) (hn : cs.length = Nat.min sLen dLen * sz)
    (hsrc : ∀ j v, cs[j]? = some v → w.cell? (ad.add j) = some v) (hd : ∀ j, j < cs.length → (w.cell? ⟨g, o + j, none⟩).isSome = true) (hf : ∀ j, j < cs.length → w.frozen? ⟨g, o + j, none⟩ = false) (h1 : ∀ v ∈ cs, v.oneCell' = true) :
    (Builtin.copy_ #[dT, sT] ty #[.slice (some ⟨g, o, none⟩) dLen dCap, .slice (some ad) sLen sCap]).run P w = .ok (goInt (Nat.min sLen dLen)) (w.setCells g o cs) := by
  have hst := run_storeCells_cells (P := P) g o cs 0 w (by simpa using hd) (by simpa using hf) h1
  have hfc := run_firstCells_some (P := P) (w := w) sz (Nat.min sLen dLen) ad sLen sCap cs hn hsrc
  simp only [Nat.add_zero] at hst
  cases hq : P.info? elem with
  | none => simp [hq] at hs
  | some i =>
    have hi : i.size = sz := by simpa [hq] using hs
    simp [Builtin.copy_, run_underlying hu, Builtin.lenOf, sizeOf, typeInfo, hq, hi, hfc, hst]

theorem run_clear_one {P : Program} (w : World) (t e ty : TypeId) (z : Value) (ht : P.underlying t = some (.slice e)) (hv : ∀ w, (zeroValue e).run P w = .ok z w) (hz : z.cells = #[z]) (h1 : z.oneCell' = true) (g o cp : Nat)
    (hc : (w.cell? ⟨g, o, none⟩).isSome = true) (hf : w.frozen? ⟨g, o, none⟩ = false) :
    (Builtin.clear_ #[t] ty #[.slice (some ⟨g, o, none⟩) 1 cp]).run P w = .ok (.tuple #[]) (w.setCells g o [z]) := by
  have hzc : (Builtin.zeroCells z.cells 1).toList = [z] := by
    rw [hz]
    apply List.ext_getElem
    · simp [Builtin.zeroCells]
    · intro i h1 h2
      simp only [List.length_cons, List.length_nil] at h2
      obtain rfl : i = 0 := by omega
      simp [Builtin.zeroCells]
  have hst := run_storeCells_cells (P := P) g o [z] 0 w (by intro j hj; obtain rfl : j = 0 := (by simp at hj; omega); simpa using hc) (by intro j hj; obtain rfl : j = 0 := (by simp at hj; omega); simpa using hf) (by intro v hv'; simp at hv'; subst hv'; exact h1)
  simp only [Nat.add_zero] at hst
  simp [Builtin.clear_, run_underlying ht, hv, hzc, hst]

theorem zeroR (w : World) : (zeroValue 23).run Tryz.prog w = .ok (.slice none 0 0) w := by kernel_rfl


section
variable {P : Program} {ops : Array Oper} {rest : List Oper} {o : Oper} {a : Act} {w : World} {K : Act → World → Prop} {Q : Exit → Act → World → Prop} {E : Prop}
theorem step_copy_cells (hgd : o.guard = none) (d s : Operand) (dT sT : TypeId) (ho : o.op = .call { callee := .builtin .copy, args := #[d, s], argTypes := #[dT, sT] }) (elem : TypeId)
    (hu : P.underlying dT = some (.slice elem)) (sz : Nat) (hs : (P.info? elem).map (·.size) = some sz) (g off dLen dCap : Nat) (ad : Addr) (sLen sCap : Nat) (hd : a.eval d = .slice (some ⟨g, off, none⟩) dLen dCap) (hsrc : a.eval s = .slice (some ad) sLen sCap)
    (cs : List Value) (hn : cs.length = Nat.min sLen dLen * sz) (hc : ∀ j v, cs[j]? = some v → w.cell? (ad.add j) = some v) (hdc : ∀ j, j < cs.length → (w.cell? ⟨g, off + j, none⟩).isSome = true ∧ w.frozen? ⟨g, off + j, none⟩ = false) (h1 : ∀ v ∈ cs, v.oneCell' = true)
    (hK : K (a.put o.dst (goInt (Nat.min sLen dLen))) (w.setCells g off cs)) : if Region.wanted o (yielded ops a.tmps) = true then Oper.wp P o a w K Q else E := by
  rw [if_pos (by simp [Region.wanted, hgd])]
  have hrun := run_copy_cells (P := P) w dT sT o.type elem g off dLen dCap sz ad sLen sCap cs hu hs hn hc (fun j hj => (hdc j hj).1) (fun j hj => (hdc j hj).2) h1
  unfold Oper.wp
  simp [execOp, ho, resolve, invoke, builtin, hd, hsrc, hrun, Result.andThen]
  exact hK
theorem wpList_copy_cells (hgd : o.guard = none) (d s : Operand) (dT sT : TypeId) (ho : o.op = .call { callee := .builtin .copy, args := #[d, s], argTypes := #[dT, sT] }) (elem : TypeId)
    (hu : P.underlying dT = some (.slice elem)) (sz : Nat) (hs : (P.info? elem).map (·.size) = some sz) (g off dLen dCap : Nat) (ad : Addr) (sLen sCap : Nat) (hd : a.eval d = .slice (some ⟨g, off, none⟩) dLen dCap) (hsrc : a.eval s = .slice (some ad) sLen sCap)
    (cs : List Value) (hn : cs.length = Nat.min sLen dLen * sz) (hc : ∀ j v, cs[j]? = some v → w.cell? (ad.add j) = some v) (hdc : ∀ j, j < cs.length → (w.cell? ⟨g, off + j, none⟩).isSome = true ∧ w.frozen? ⟨g, off + j, none⟩ = false) (h1 : ∀ v ∈ cs, v.oneCell' = true)
    (hK : ∀ w', w' = w.setCells g off cs → wpList P ops Q rest (a.put o.dst (goInt (Nat.min sLen dLen))) w') : wpList P ops Q (o :: rest) a w := by
  refine wpList_plain hgd fun K' hK' => ?_
  have hrun := run_copy_cells (P := P) w dT sT o.type elem g off dLen dCap sz ad sLen sCap cs hu hs hn hc (fun j hj => (hdc j hj).1) (fun j hj => (hdc j hj).2) h1
  unfold Oper.wp
  simp [execOp, ho, resolve, invoke, builtin, hd, hsrc, hrun, Result.andThen]
  exact hK' _ _ (hK _ rfl)
theorem wpList_append_room (hgd : o.guard = none) (s x : Operand) (t : TypeId) (ho : o.op = .call { callee := .builtin .append, args := #[s, x], argTypes := #[t, t] }) (e : TypeId) (i : TypeInfo) (size : Nat)
    (h1 : P.underlying t = some (.slice e)) (h2 : P.info? e = some i) (h4 : i.size = size) (b off n cap : Nat) (hs : a.eval s = .slice (some ⟨b, off, none⟩) n cap) (ad : Addr) (m c : Nat) (news : List Value) (hx : a.eval x = .slice (some ad) m c) (hn : news.length = m * size)
    (hc : ∀ j u, news[j]? = some u → w.cell? (ad.add j) = some u) (h1c : ∀ u ∈ news, u.oneCell' = true) (hroom : n + m ≤ cap) (hspare : ∀ j, j < news.length → (w.cell? ⟨b, off + n * size + j, none⟩).isSome = true ∧ w.frozen? ⟨b, off + n * size + j, none⟩ = false)
    (hK : ∀ w', w' = w.setCells b (off + n * size) news → wpList P ops Q rest (a.put o.dst (.slice (some ⟨b, off, none⟩) (n + m) cap)) w') : wpList P ops Q (o :: rest) a w := by
  refine wpList_plain hgd fun K' hK' => ?_
  subst h4
  have hrun := run_append_room_cells (P := P) w t o.type e i h1 h2 b off n cap ad m c news hn hc h1c hroom (fun j hj => (hspare j hj).1) (fun j hj => (hspare j hj).2)
  unfold Oper.wp
  simp [execOp, ho, resolve, invoke, builtin, hs, hx, hrun, Result.andThen]
  exact hK' _ _ (hK _ rfl)
end
theorem splice_ins {cur : List Value} {cap n i : Nat} {x : Value} (hcl : cur.length = cap) (hn : n < cap) (hi : i < n) :
    (splice (splice cur ((i + 1)) ((cur.take (n)).drop (i))) (i) [x]).take ((n + 1)) = cur.take (i) ++ [x] ++ (cur.take (n)).drop (i) := by
  have l0 : ((cur.take (n)).drop (i)).length = (n - i) := by rw [List.length_drop, List.length_take]; omega
  have e1 : splice cur ((i + 1)) ((cur.take (n)).drop (i)) = cur.take ((i + 1)) ++ ((cur.take (n)).drop (i) ++ cur.drop ((n + 1))) := by
    unfold splice; rw [l0]; congr 3; omega
  have l1 : (cur.take ((i + 1))).length = (i + 1) := by rw [List.length_take]; omega
  have l2 : (cur.take (i)).length = i := by rw [List.length_take]; omega
  have e2 : (splice cur ((i + 1)) ((cur.take (n)).drop (i))).take (i) = cur.take (i) := by
    rw [e1, List.take_append_of_le_length (by omega), List.take_take]; congr 1; omega
  have e3 : (splice cur ((i + 1)) ((cur.take (n)).drop (i))).drop (i + [x].length) = (cur.take (n)).drop (i) ++ cur.drop ((n + 1)) := by
    rw [e1]; exact List.drop_left' (by rw [l1]; simp)
  rw [splice, e2, e3, ← List.append_assoc, ← List.append_assoc]
  exact List.take_left' (by rw [List.length_append, List.length_append, l2, l0]; simp; omega)



/-! ### Clone -/
set_option maxHeartbeats 1600000 in
set_option maxRecDepth 100000 in
theorem cloneT_spec {S : Nat → Prop} {w : World} {v : Value} {l : List (List Cell)} (hl : Seq (seqE cellE) S w v l) (hlen : l.length ≤ 1000000000) :
    Calls Tryz.prog 64 #[v] w (Ret (fun o w' => Own (seqE cellE) (fun b => S b ∧ b < w.heap.size) w.heap.size 23 w' o l) w) := by
  have hb := Lib.hid hl.bnd
  obtain ⟨ao, cap, rfl, h1, h2, h3, h4, h5⟩ := hl
  cases ao with
  | none =>
    obtain rfl := h4 rfl
    have hl0 : l.length = 0 := by omega
    have hn := Lib.hid (List.eq_nil_of_length_eq_zero hl0)
    have hnil := fun (w : World) (a : Option Addr) (n c n' c' : Nat) => Lib.run_eql_slice_nil (P := Tryz.prog) w 41 23 a n c n' c' Tryz.underlying41
    clear h5 h4
    go_enter Tryz.func64, Tryz.ntmps64
    go_wp2_with fail
    go_ret
    exact ⟨_, rfl, Below.refl _ _, by rw [hn.out]; exact Own.nil _ _ _ _ _⟩
  | some ad =>
    clear h5 h4
    have hown : Own (seqE cellE) (fun b => S b ∧ b < w.heap.size) w.heap.size 23 (w.alloc (.cells #[] 23)) (.slice (some ⟨w.heap.size, 0, none⟩) 0 0) ([] : List (List Cell)) := Own.lit0 rfl (Nat.le_refl _) rfl
    have hba := Lib.hid (hb.out.at (Seq.way (w' := w.alloc (.cells #[] 23))))
    have hnil := fun (w : World) (a : Option Addr) (n c n' c' : Nat) => Lib.run_eql_slice_nil (P := Tryz.prog) w 41 23 a n c n' c' Tryz.underlying41
    go_enter Tryz.func64, Tryz.ntmps64
    go_wp2_with (at_builtin; refine wpList_appL (wm := w.alloc (.cells #[] 23)) (zs := l) rfl _ _ 41 rfl Tryz.underlying41 infoSeq rfl rfl hown (Below.refl _ _) rfl hba.out (fun b h _ => ⟨h, .inl h.2⟩) rfl (by omega) (by omega) (by simp) ?_)
    intro ao' cap' w' hown' hkept
    have hb' := (Seq.way (w := w) (w' := w.alloc (.cells #[] 23)) (B := w.heap.size)).trans hkept.below
    have Hown := Lib.hid hown'
    clear hown hown' hkept hba
    go_wp2_with fail
    go_ret
    exact ⟨_, rfl, hb', Hown.out⟩

/-! ### Clone -/
theorem infoCellU : (Tryz.prog.info? 51).map (fun i => (i.zero, i.size, i.bytes)) = some (some (.agg #[.int .i64 0, .string ⟨#[]⟩, .int .i64 0]), 3, 32) := by kernel_rfl
set_option maxHeartbeats 1600000 in
set_option maxRecDepth 100000 in
theorem cloneC_spec {S : Nat → Prop} {w : World} {v : Value} {l : List (Cell)} (hl : Seq (cellE) S w v l) (hlen : l.length ≤ 1000000000) :
    Calls Tryz.prog 86 #[v] w (Ret (fun o w' => Own (cellE) (fun b => S b ∧ b < w.heap.size) w.heap.size 51 w' o l) w) := by
  have hb := Lib.hid hl.bnd
  obtain ⟨ao, cap, rfl, h1, h2, h3, h4, h5⟩ := hl
  cases ao with
  | none =>
    obtain rfl := h4 rfl
    have hl0 : l.length = 0 := by omega
    have hn := Lib.hid (List.eq_nil_of_length_eq_zero hl0)
    have hnil := fun (w : World) (a : Option Addr) (n c n' c' : Nat) => Lib.run_eql_slice_nil (P := Tryz.prog) w 23 51 a n c n' c' Tryz.underlying23
    clear h5 h4
    go_enter Tryz.func86, Tryz.ntmps86
    go_wp2_with fail
    go_ret
    exact ⟨_, rfl, Below.refl _ _, by rw [hn.out]; exact Own.nil _ _ _ _ _⟩
  | some ad =>
    clear h5 h4
    have hown : Own (cellE) (fun b => S b ∧ b < w.heap.size) w.heap.size 51 (w.alloc (.cells #[] 51)) (.slice (some ⟨w.heap.size, 0, none⟩) 0 0) ([] : List (Cell)) := Own.lit0 rfl (Nat.le_refl _) rfl
    have hba := Lib.hid (hb.out.at (Seq.way (w' := w.alloc (.cells #[] 51))))
    have hnil := fun (w : World) (a : Option Addr) (n c n' c' : Nat) => Lib.run_eql_slice_nil (P := Tryz.prog) w 23 51 a n c n' c' Tryz.underlying23
    go_enter Tryz.func86, Tryz.ntmps86
    go_wp2_with (at_builtin; refine wpList_appL (wm := w.alloc (.cells #[] 51)) (zs := l) rfl _ _ 23 rfl Tryz.underlying23 infoCellU rfl rfl hown (Below.refl _ _) rfl hba.out (fun b h _ => ⟨h, .inl h.2⟩) rfl (by omega) (by omega) (by simp) ?_)
    intro ao' cap' w' hown' hkept
    have hb' := (Seq.way (w := w) (w' := w.alloc (.cells #[] 51)) (B := w.heap.size)).trans hkept.below
    have Hown := Lib.hid hown'
    clear hown hown' hkept hba
    go_wp2_with fail
    go_ret
    exact ⟨_, rfl, hb', Hown.out⟩
end Go.Proofs.YtckkjjiaecnciaaGreat
