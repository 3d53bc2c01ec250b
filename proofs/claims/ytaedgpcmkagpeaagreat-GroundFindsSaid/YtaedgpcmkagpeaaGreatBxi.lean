/-
  A region that draws and ends with a call, a box made for its result, and the store: the call and the box come in either order.
-/
import Derived.Test.YtaedgpcmkagpeaaGreatGuP
namespace Go.Proofs.YtaedgpcmkagpeaaGreat
open Go Go.RowKit

section
variable {T : TypeId} {w w' : World} {B : Nat}
def set3 (w : World) (B : Nat) (x y z : Value) : World := ((w.setCell ⟨B, 0, none⟩ x).setCell ⟨B, 1, none⟩ y).setCell ⟨B, 2, none⟩ z
def set2 (w : World) (B : Nat) (x y : Value) : World := (w.setCell ⟨B, 0, none⟩ x).setCell ⟨B, 1, none⟩ y
theorem set3_row {a b c : Value} (h : Row T w B [a, b, c]) (x y z : Value) : Row T (set3 w B x y z) B [x, y, z] := ((h.set 0 x).set 1 y).set 2 z
theorem set2_row {a b : Value} (h : Row T w B [a, b]) (x y : Value) : Row T (set2 w B x y) B [x, y] := (h.set 0 x).set 1 y
theorem set3_gr (w : World) (B : Nat) (x y z : Value) : w.grownBy (set3 w B x y z) (some B) := gr_trans (gr_trans (gr_set w B 0 x) (gr_set _ B 1 y)) (gr_set _ B 2 z)
theorem set2_gr (w : World) (B : Nat) (x y : Value) : w.grownBy (set2 w B x y) (some B) := gr_trans (gr_set w B 0 x) (gr_set _ B 1 y)
end
section
variable {o : Oper} {a : Act} {w : World} {K : Act → World → Prop} {Q : Exit → Act → World → Prop}
def zIns : Obj := .cells #[.slice none 0 0, .slice none 0 0, .slice none 0 0] 41
def zProg : Obj := .cells #[.slice none 0 0, .slice none 0 0] 26
theorem allocIns_wp (ho : o.op = .alloc 41) (h : K (a.put o.dst (.pointer (some ⟨w.heap.size, 0, none⟩))) (w.alloc zIns)) : o.wp Tryz.prog a w K Q := by
  unfold Oper.wp execOp
  simp only [ho]
  go_simp
  exact h
theorem allocProg_wp (ho : o.op = .alloc 26) (h : K (a.put o.dst (.pointer (some ⟨w.heap.size, 0, none⟩))) (w.alloc zProg)) : o.wp Tryz.prog a w K Q := by
  unfold Oper.wp execOp
  simp only [ho]
  go_simp
  exact h
theorem storeIns_wp {p v : Operand} {B : Nat} {x y z t1 t2 t3 : Value} (hx : ∃ p n c, x = .slice p n c) (hy : ∃ p n c, y = .slice p n c) (hz : ∃ p n c, z = .slice p n c) (ho : o.op = .store 41 p v) (hd : o.dst = none) (hp : a.eval p = .pointer (some ⟨B, 0, none⟩)) (hv : a.eval v = .agg #[x, y, z]) (hr : Row 41 w B [t1, t2, t3]) (h : K a (set3 w B x y z)) : o.wp Tryz.prog a w K Q := by
  obtain ⟨p1, n1, k1, rfl⟩ := hx
  obtain ⟨p2, n2, k2, rfl⟩ := hy
  obtain ⟨p3, n3, k3, rfl⟩ := hz
  have c0 := hr.cell (j := 0) (by simp)
  have c1 := hr.cell (j := 1) (by simp)
  have c2 := hr.cell (j := 2) (by simp)
  have f0 := hr.frozen 0
  have f1 := hr.frozen 1
  have f2 := hr.frozen 2
  have lt := hr.lt
  simp only [List.getElem_cons_zero, List.getElem_cons_succ] at c0 c1 c2
  unfold set3 at h
  unfold Oper.wp execOp
  simp only [ho, hp, hv]
  go_simp
  simpa [hd, Act.put] using h
theorem storeProg_wp {p v : Operand} {B : Nat} {x y t1 t2 : Value} (hx : ∃ p n c, x = .slice p n c) (hy : ∃ p n c, y = .slice p n c) (ho : o.op = .store 26 p v) (hd : o.dst = none) (hp : a.eval p = .pointer (some ⟨B, 0, none⟩)) (hv : a.eval v = .agg #[x, y]) (hr : Row 26 w B [t1, t2]) (h : K a (set2 w B x y)) : o.wp Tryz.prog a w K Q := by
  obtain ⟨p1, n1, k1, rfl⟩ := hx
  obtain ⟨p2, n2, k2, rfl⟩ := hy
  have c0 := hr.cell (j := 0) (by simp)
  have c1 := hr.cell (j := 1) (by simp)
  have f0 := hr.frozen 0
  have f1 := hr.frozen 1
  have lt := hr.lt
  simp only [List.getElem_cons_zero, List.getElem_cons_succ] at c0 c1
  unfold set2 at h
  unfold Oper.wp execOp
  simp only [ho, hp, hv]
  go_simp
  simpa [hd, Act.put] using h
end
theorem InsV.ltW {S : Nat → Prop} {w : World} {v : Value} {i : Ins} (h : InsV S w v i) : InsV (fun b => b < w.heap.size) w v i := by
  obtain ⟨x, y, z, e, h1, h2, h3⟩ := h
  exact ⟨x, y, z, e, h1.bnd.mono (fun _ h _ => h.2) fun _ _ _ => rfl, h2.bnd.mono (fun _ h _ => h.2) fun _ _ _ => rfl, h3.bnd.mono (fun _ h _ => h.2) fun _ _ _ => rfl⟩
theorem InsV.neB {S : Nat → Prop} {W w : World} {v : Value} {i : Ins} {B : Nat} (h : InsV (Fr S W) w v i) (hS : ∀ b, S b → b < B) (hB : B < W.heap.size) : InsV (fun b => b ≠ B) w v i := by
  have key : ∀ b, Fr S W b → b ≠ B := fun b hb e => by
    rcases hb with hb | hb
    · have := hS b hb; omega
    · omega
  obtain ⟨x, y, z, e, h1, h2, h3⟩ := h
  exact ⟨x, y, z, e, h1.mono (fun b h _ => key b h) fun _ _ _ => rfl, h2.mono (fun b h _ => key b h) fun _ _ _ => rfl, h3.mono (fun b h _ => key b h) fun _ _ _ => rfl⟩
def sameI (x y : Ins) : Bool := decide (x.head = y.head) && (decide (x.pos = y.pos) && decide (x.neg = y.neg))
theorem sameI_self (x : Ins) : sameI x x = true := by simp [sameI]
section
variable {md : Region.Mode} {ops : Array Oper} {Q : Exit → Act → World → Prop} {S : World → Prop}
theorem put_evalA {a : Act} {d : Tmp} {v : Value} (hd : d < a.tmps.size) : (a.put (some d) v).eval (.tmp d) = v := by
  simp [Act.put, Act.eval, Array.getD, hd]
theorem wpAnyH_boxIns {ic ia is : Nat} {oc oa os : Oper} {fuel : Nat} {listed : Array Bool} {a : Act} {w : World} {dc da : Tmp} {i : Ins}
    (hr : Region.ready md ops listed = [ic, ia]) (hrc : Region.ready md ops (listed.setIfInBounds ic true) = [ia]) (hra : Region.ready md ops (listed.setIfInBounds ia true) = [ic])
    (hrs : Region.ready md ops ((listed.setIfInBounds ic true).setIfInBounds ia true) = [is]) (hij : ic ≠ ia) (hoc : ops[ic]? = some oc) (hoa : ops[ia]? = some oa) (hos : ops[is]? = some os)
    (_ : oc.dst = some dc) (dA : oa.dst = some da) (dS : os.dst = none) (hdd : dc ≠ da) (gC : oc.guard = none) (gA : oa.guard = none) (gS : os.guard = none) (lc : dc < a.tmps.size) (la : da < a.tmps.size)
    (pA : oa.op = .alloc 41) (pS : os.op = .store 41 (.tmp da) (.tmp dc)) (hS : ∀ w', Below w.heap.size w w' → S w')
    (h1 : ∀ K : Act → World → Prop, Hid (∀ v w', Below w.heap.size w w' → InsV (fun b => b < w'.heap.size) w' v i → K (a.put (some dc) v) w') → oc.wp Tryz.prog a w K Q)
    (h2 : ∀ K : Act → World → Prop, Hid (∀ v w', Below (w.alloc zIns).heap.size (w.alloc zIns) w' → InsV (fun b => b ≠ w.heap.size) w' v i → K ((a.put (some da) (.pointer (some ⟨w.heap.size, 0, none⟩))).put (some dc) v) w') →
      oc.wp Tryz.prog (a.put (some da) (.pointer (some ⟨w.heap.size, 0, none⟩))) (w.alloc zIns) K Q)
    (hend : ∀ B x y z w', w.heap.size ≤ B → Row 41 w' B [x, y, z] → Below w.heap.size w w' → InsV (fun b => b ≠ B) w' (.agg #[x, y, z]) i →
      wpAnyH Tryz.prog md ops Q S fuel (((listed.setIfInBounds ic true).setIfInBounds ia true).setIfInBounds is true) ((a.put (some dc) (.agg #[x, y, z])).put (some da) (.pointer (some ⟨B, 0, none⟩))) w') :
    wpAnyH Tryz.prog md ops Q S (fuel + 3) listed a w := by
  have wn : ∀ {o : Oper}, o.guard = none → ∀ y, Region.wanted o y = true := fun h y => by unfold Region.wanted; rw [h]
  refine wpAnyH_two (i := ic) (j := ia) (di := dc) (dj := da) hr hrc hra hij hoc hoa hdd (wn gC _) (wn gA _) (fun _ => wn gC _) (fun _ => wn gA _)
    (fun v w' => Below w.heap.size w w' ∧ InsV (fun b => b < w'.heap.size) w' v i) (fun u w' => u = .pointer (some ⟨w.heap.size, 0, none⟩) ∧ w' = w.alloc zIns)
    (fun v u w' => ∃ B x y z, u = .pointer (some ⟨B, 0, none⟩) ∧ v = .agg #[x, y, z] ∧ w.heap.size ≤ B ∧ Row 41 w' B [.slice none 0 0, .slice none 0 0, .slice none 0 0] ∧ Below w.heap.size w w' ∧ InsV (fun b => b ≠ B) w' (.agg #[x, y, z]) i) ?_ ?_ ?_ ?_ ?_
  · intro K hK
    exact h1 K (Lib.hid fun v w' hb hi => hK.out v w' (hS w' hb) ⟨hb, hi⟩)
  · rintro v w1 ⟨hb, hi⟩ K hK
    refine allocIns_wp pA ?_
    rw [dA]
    have hba : Below w1.heap.size w1 (w1.alloc zIns) := Seq.way
    have hb2 := below_step hba hb
    obtain ⟨x, y, z, rfl, hx, hy, hz⟩ := hi
    refine hK.out _ _ (hS _ hb2) ⟨w1.heap.size, x, y, z, rfl, rfl, hb.size, Row.new w1 [_, _, _] _ rfl, hb2, ⟨x, y, z, rfl, ?_, ?_, ?_⟩⟩
    · exact (hx.at hba).mono (fun b h _ e => by omega) fun _ _ _ => rfl
    · exact (hy.at hba).mono (fun b h _ e => by omega) fun _ _ _ => rfl
    · exact (hz.at hba).mono (fun b h _ e => by omega) fun _ _ _ => rfl
  · intro K hK
    refine allocIns_wp pA ?_
    rw [dA]
    exact hK.out _ _ (hS _ Seq.way) ⟨rfl, rfl⟩
  · rintro u w1 ⟨rfl, rfl⟩ K hK
    refine h2 K (Lib.hid fun v w' hb hi => ?_)
    have hb2 : Below w.heap.size w w' := below_step hb Seq.way
    obtain ⟨x, y, z, rfl, hx, hy, hz⟩ := hi
    exact hK.out _ _ (hS _ hb2) ⟨w.heap.size, x, y, z, rfl, rfl, Nat.le_refl _, rowTo (Row.new w [_, _, _] _ rfl) hb, hb2, x, y, z, rfl, hx, hy, hz⟩
  · rintro v u w' _ ⟨B, x, y, z, rfl, rfl, hB, hrow, hb, hi⟩
    refine wpAnyH_one (i := is) hrs hos (wn gS _) fun K hK => ?_
    have e1 : ((a.put (some dc) (.agg #[x, y, z])).put (some da) (.pointer (some ⟨B, 0, none⟩))).eval (.tmp dc) = .agg #[x, y, z] := by
      rw [Act.put_comm a _ _ (fun d h1 h2 => hdd (by simp only [Option.some.injEq] at h1 h2; rw [h1, h2]))]
      exact put_evalA (by simpa [Act.put] using lc)
    have sx : ∃ p n c, x = .slice p n c := by obtain ⟨_, _, _, ee, hx, -, -⟩ := hi; simp only [Value.agg.injEq, Array.mk.injEq, List.cons.injEq, and_true] at ee; obtain ⟨a, c, e⟩ := hx.shape; exact ⟨a, _, c, ee.1.trans e⟩
    have sy : ∃ p n c, y = .slice p n c := by obtain ⟨_, _, _, ee, -, hx, -⟩ := hi; simp only [Value.agg.injEq, Array.mk.injEq, List.cons.injEq, and_true] at ee; obtain ⟨a, c, e⟩ := hx.shape; exact ⟨a, _, c, ee.2.1.trans e⟩
    have sz : ∃ p n c, z = .slice p n c := by obtain ⟨_, _, _, ee, -, -, hx⟩ := hi; simp only [Value.agg.injEq, Array.mk.injEq, List.cons.injEq, and_true] at ee; obtain ⟨a, c, e⟩ := hx.shape; exact ⟨a, _, c, ee.2.2.trans e⟩
    refine storeIns_wp sx sy sz pS dS (put_evalA (by simpa [Act.put] using la)) e1 hrow ?_
    have hg := set3_gr w' B x y z
    have hb2 : Below w.heap.size w (set3 w' B x y z) := hb.trans (gr_below hg hB hb.size)
    obtain ⟨_, _, _, ee, hx, hy, hz⟩ := hi
    simp only [Value.agg.injEq, Array.mk.injEq, List.cons.injEq, and_true] at ee
    obtain ⟨rfl, rfl, rfl⟩ := ee
    refine hK.out _ _ (hS _ hb2) fun _ => hend B x y z _ hB (set3_row hrow x y z) hb2 ⟨x, y, z, rfl, ?_, ?_, ?_⟩
    · exact gr_seq hx hg fun b h e => h (by simpa using e.symm)
    · exact gr_seq hy hg fun b h e => h (by simpa using e.symm)
    · exact gr_seq hz hg fun b h e => h (by simpa using e.symm)
end
end Go.Proofs.YtaedgpcmkagpeaaGreat
