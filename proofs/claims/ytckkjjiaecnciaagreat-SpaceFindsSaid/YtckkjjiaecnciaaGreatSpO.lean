/-
  Layer 14, the law: f, v, head.
-/
import Derived.Test.YtckkjjiaecnciaaGreatSpM
import Derived.Test.YtckkjjiaecnciaaGreatSpK
import Derived.Great.BuildSlice
namespace Go.Proofs.YtckkjjiaecnciaaGreat
open Go Go.RowKit

def CellW2 (c : Cell) : Prop := IntOK c.kind ∧ IntOK c.n ∧ c.name.size ≤ 140737488355328
def flatV (cs : List Cell) : List Value := cs.flatMap fun c => [.int .i64 c.kind, .string c.name, .int .i64 c.n]
theorem flatV_get : ∀ (cs : List Cell) (k j : Nat) (c : Cell), cs[k]? = some c → j < 3 → (flatV cs)[k * 3 + j]? = [Value.int .i64 c.kind, .string c.name, .int .i64 c.n][j]?
  | [], k, j, c, h, _ => by simp at h
  | d :: cs, 0, j, c, h, hj => by
    simp at h; subst h
    show ([Value.int .i64 d.kind, .string d.name, .int .i64 d.n] ++ flatV cs)[0 * 3 + j]? = _
    rw [List.getElem?_append_left (by simp; omega)]
    congr 1; omega
  | d :: cs, k + 1, j, c, h, hj => by
    simp at h
    show ([Value.int .i64 d.kind, .string d.name, .int .i64 d.n] ++ flatV cs)[(k + 1) * 3 + j]? = _
    rw [List.getElem?_append_right (by simp; omega), ← flatV_get cs k j c h hj]
    congr 1; simp; omega
/-- A literal slice of cells. -/
theorem litC {w : World} (cs : List Cell) (hok : ∀ c ∈ cs, CellW2 c) (hl : cs.length ≤ 1000) : Seq cellE (fun _ => True) (w.alloc (.cells (flatV cs).toArray 51)) (.slice (some ⟨w.heap.size, 0, none⟩) cs.length cs.length) cs := by
  have h : Row 51 (w.alloc (.cells (flatV cs).toArray 51)) w.heap.size (flatV cs) := Row.new w _ _ rfl
  exact Row.seq h rfl (Nat.le_refl _) (by unfold maxLen; omega) (by omega) trivial fun k x hk => ⟨_, ⟨rfl, hok x (List.mem_of_getElem? hk)⟩, fun j hj => flatV_get cs k j x hk hj⟩
theorem litI14 {w : World} (xs : List Int) (hok : ∀ x ∈ xs, IntOK x) (hl : xs.length ≤ 1000) : Seq intE (fun _ => True) (w.alloc (.cells (xs.map (Value.int .i64)).toArray 3)) (.slice (some ⟨w.heap.size, 0, none⟩) xs.length xs.length) xs :=
  RowI.seq (B := w.heap.size) (T := 3) (show RowI 3 _ w.heap.size xs from Row.new w _ 3 rfl) rfl (Nat.le_refl _) (by unfold maxLen; omega) (by omega) trivial hok
theorem litTab {w : World} {B : Nat} {v : Value} {c : List Cell} (hB : B = w.heap.size) (hc : Seq cellE (fun _ => True) w v c) : Seq tabE (fun _ => True) (w.alloc (.cells #[v, .slice none 0 0] 43)) (.slice (some ⟨B, 0, none⟩) 1 1) [⟨c, []⟩] := by
  subst hB
  refine Row.seq (E := tabE) (xs := [(⟨c, []⟩ : Tab)]) (vs := [v, .slice none 0 0]) (Row.new w [_, _] 43 rfl) rfl (Nat.le_refl _) (by decide) (by simp) trivial fun k x hk => ?_
  obtain rfl : k = 0 := by have := (List.getElem?_eq_some_iff.1 hk).1; simp at this; omega
  simp at hk; subst hk
  refine ⟨[v, .slice none 0 0], ⟨_, _, rfl, hc.at Seq.way, Seq.nil _ _ _⟩, fun j hj => ?_⟩
  have hj2 : j < 2 := hj
  rcases (show j = 0 ∨ j = 1 by omega) with rfl | rfl <;> rfl

set_option maxRecDepth 100000 in
theorem fC_spec {w : World} {nm : ByteArray} {n : Int} : Calls Tryz.prog 30 #[.string nm, .int .i64 n] w (RetV (.agg #[.int .i64 3, .string nm, .int .i64 n]) w) := by
  go_enter Tryz.func30, Tryz.ntmps30
  go_wp2_with fail
  refine bodyPost_ret (v := .agg #[.int .i64 3, .string nm, .int .i64 n]) (by simp [results, Tryz.results30, go_sem]) rfl ?_
  exact ⟨rfl, Seq.way⟩
set_option maxRecDepth 100000 in
theorem vC_spec {w : World} {n : Int} : Calls Tryz.prog 31 #[.int .i64 n] w (RetV (.agg #[.int .i64 1, .string ⟨#[]⟩, .int .i64 n]) w) := by
  go_enter Tryz.func31, Tryz.ntmps31
  go_wp2_with fail
  refine bodyPost_ret (v := .agg #[.int .i64 1, .string ⟨#[]⟩, .int .i64 n]) (by simp [results, Tryz.results31, go_sem]) rfl ?_
  exact ⟨rfl, Seq.way⟩

theorem ints14 {S T : Nat → Prop} {w : World} {v u : Value} {a : List Int} (ha : Seq intE S w v a) (hb : Seq intE T w u a) : Calls Tryz.prog 21 #[v, u] w (RetV (.bool true) w) :=
  (IntsR14_spec ha hb).mono fun _ _ h => ⟨by rw [h.1, decide_eq_true rfl], h.2.belowS⟩

def cP : Cell := ⟨3, ⟨#[112]⟩, 1⟩
def cA : Cell := ⟨3, ⟨#[97]⟩, 0⟩
def cQ : Cell := ⟨3, ⟨#[113]⟩, 0⟩
def cV (n : Int) : Cell := ⟨1, ⟨#[]⟩, n⟩
def hS1 : List Tab := [⟨[cP, cV 0], []⟩]
def hU : List Tab := [⟨[cP, cV 0], []⟩, ⟨[cQ], []⟩]
def hX : List Tab := [⟨[cQ], []⟩, ⟨[cP, cV 0], []⟩]
def hWt : List Tab := [⟨[cP, cV 0], [[cP, cA]]⟩]
theorem hd_1 : openT [] [cP, cV 5] = (hS1, 0) := by decide +kernel
theorem hd_2 : openT hS1 [cP, cV 1] = (hS1, 0) := by decide +kernel
theorem hd_3 : openT hS1 [cQ] = (hU, 1) := by decide +kernel
theorem hd_4 : sortTs hU = hX := by decide +kernel
theorem hd_4b : placesS hU = [1, 0] := by decide +kernel
theorem hd_5 : answerT hS1 0 [cP, cA] = (hWt, true) := by decide +kernel
theorem hd_5b : newA hS1 0 [cP, cA] = true := by decide +kernel
theorem hd_6 : answerT hWt 0 [cP, cA] = (hWt, false) := by decide +kernel
theorem hd_6b : newA hWt 0 [cP, cA] = false := by decide +kernel
theorem hd_7 : answerT hS1 1 [cP, cA] = (hS1, false) := by decide +kernel
theorem hd_7b : newA hS1 1 [cP, cA] = false := by decide +kernel
theorem hd_8 : findTb hU [cQ] = 1 := by decide +kernel
theorem hd_9 : findTb hU [cP, cA] = -1 := by decide +kernel
theorem hd_10 : totalT hWt = 1 := by decide +kernel
theorem hd_11 : rightTs hWt = true := by decide +kernel
theorem hd_12 : rightTs [⟨[cV 0], []⟩] = false := by decide +kernel
theorem hd_13 : rightTs [⟨[cP, cV 1], []⟩] = false := by decide +kernel
theorem hd_g : GoodS hU := good_of (by decide +kernel) (by decide +kernel)
theorem okP : CellW2 cP := ⟨⟨by decide, by decide⟩, ⟨by decide, by decide⟩, by decide⟩
theorem okA : CellW2 cA := ⟨⟨by decide, by decide⟩, ⟨by decide, by decide⟩, by decide⟩
theorem okQ : CellW2 cQ := ⟨⟨by decide, by decide⟩, ⟨by decide, by decide⟩, by decide⟩
theorem okV0 : CellW2 (cV 0) := ⟨⟨by decide, by decide⟩, ⟨by decide, by decide⟩, by decide⟩
theorem okV1 : CellW2 (cV 1) := ⟨⟨by decide, by decide⟩, ⟨by decide, by decide⟩, by decide⟩
theorem okV5 : CellW2 (cV 5) := ⟨⟨by decide, by decide⟩, ⟨by decide, by decide⟩, by decide⟩
theorem wp_buildS {P : Program} {o : Oper} {a : Act} {w : World} {K : Act → World → Prop} {Q : Exit → Act → World → Prop} {z : Value} {sz b : Nat} (t e : TypeId) (len : Nat) (parts : Array (Nat × Operand)) (ho : o.op = .buildSlice t len parts)
    (vals : List (Nat × Value)) (cells : Array Value) (hu : P.underlying t = some (.slice e)) (hi : (P.info? e).map (fun i => (i.zero, i.size, i.bytes)) = some (some z, sz, b)) (hsmall : ¬ len * sz > 2 ^ 24) (hpos : ¬ len * sz = 0)
    (hv : (parts.map fun (i, x) => (i, a.eval x)).toList = vals) (hf : Instr.fill (fun i => some (i * sz, sz)) ((Array.range (len * sz)).map (z.cells[· % z.cells.size]!)) vals = some cells)
    (h : K (a.put o.dst (.slice (some ⟨w.heap.size, 0, none⟩) len len)) (w.alloc (.cells cells e))) : o.wp P a w K Q := by
  obtain ⟨i, hie, hzz⟩ := Option.map_eq_some_iff.1 hi
  simp only [Prod.mk.injEq] at hzz
  obtain ⟨h1, h2, -⟩ := hzz
  subst h2
  exact wp_buildSlice t e len parts ho cells i z hu hie h1 hsmall hpos (by rw [hv]; exact hf) h
theorem ok10 : ∀ x ∈ ([1, 0] : List Int), IntOK x := fun x hx => by
  rcases List.mem_cons.1 hx with rfl | hx
  · exact ⟨by decide, by decide⟩
  · rw [List.mem_singleton] at hx; subst hx; exact ⟨by decide, by decide⟩
theorem ok1 {c : Cell} (h : CellW2 c) : ∀ x ∈ [c], CellW2 x := fun x hx => by rw [List.mem_singleton] at hx; subst hx; exact h
theorem ok2 {c d : Cell} (h : CellW2 c) (h2 : CellW2 d) : ∀ x ∈ [c, d], CellW2 x := fun x hx => by
  rcases List.mem_cons.1 hx with rfl | hx
  · exact h
  · exact ok1 h2 x hx
theorem tab0 {S : Nat → Prop} {w : World} {v : Value} {s : List Tab} (hs : Seq tabE S w v s) {k : Nat} (hk : k < s.length) : ∃ b o ha hc la lc c, v = .slice (some ⟨b, o, none⟩) s.length c ∧ b < w.heap.size ∧ w.cell? ⟨b, o + k * 2, none⟩ = some (.slice ha s[k].call.length hc) ∧ w.cell? ⟨b, o + k * 2 + 1, none⟩ = some (.slice la s[k].ans.length lc) ∧ Seq cellE S w (.slice ha s[k].call.length hc) s[k].call := by
  obtain ⟨ao, cap, rfl, -, -, -, -, x5⟩ := hs
  obtain ⟨b, off, ha, hc, la, lc, rfl, -, lb, c0, c1, hH, -⟩ := x5.tab hk
  exact ⟨b, off, ha, hc, la, lc, cap, rfl, lb, c0, c1, hH⟩
theorem same14 {S T : Nat → Prop} {w : World} {v u : Value} {a : List Cell} (ha : Seq cellE S w v a) (hb : Seq cellE T w u a) : Calls Tryz.prog 28 #[v, u] w (RetV (.bool true) w) := by
  have h := same_bool ha hb
  rwa [decide_eq_true rfl] at h
theorem find14 {S T : Nat → Prop} {w : World} {v u : Value} {s : List Tab} {c : List Cell} {z : Int} (h : findTb s c = z) (hs : Seq tabE S w v s) (hc : Seq cellE T w u c) (pc : 0 < c.length) (lc : c.length ≤ 1000000) : Calls Tryz.prog 18 #[v, u] w (RetV (.int .i64 z) w) := h ▸ FindP14_spec hs hc pc lc
theorem right14 {S : Nat → Prop} {w : World} {v : Value} {s : List Tab} {b : Bool} (h : rightTs s = b) (hs : Seq tabE S w v s) : Calls Tryz.prog 9 #[v] w (RetV (.bool b) w) := h ▸ RightP14_spec hs
theorem few14 {S : Nat → Prop} {w : World} {v : Value} {s : List Tab} {b : Bool} (h : fewB s = b) (hs : Seq tabE S w v s) : Calls Tryz.prog 8 #[v] w (RetV (.bool b) w) :=
  h ▸ (FewR14_spec hs).mono fun _ _ h => ⟨h.1, h.2 ▸ Below.refl _ _⟩
theorem total14 {S : Nat → Prop} {w : World} {v : Value} (hs : Seq tabE S w v hWt) : Calls Tryz.prog 22 #[v] w (RetV (.int .i64 1) w) := by
  have h := TotalP_spec hs (by decide) (by decide)
  rwa [hd_10] at h
theorem open14 {S T : Nat → Prop} {w : World} {v u : Value} {s r : List Tab} {c : List Cell} {z : Int} (h : openT s c = (r, z)) (hs : Seq tabE S w v s) (hc : Seq cellE T w u c) (pc : 0 < c.length) (lc : c.length ≤ 1000000) (hl : s.length ≤ 1000) :
    Calls Tryz.prog 12 #[v, u] w (fun e w' => ∃ ao ac, e = .returned (.tuple #[.slice ao r.length ac, .int .i64 z]) ∧ Below w.heap.size w w' ∧ Seq tabE (fun _ => True) w' (.slice ao r.length ac) r) :=
  (OpenP_spec hs hc pc lc hl).mono fun e w' ⟨o, he, hb, hs⟩ => by
    rw [h] at he hs
    obtain ⟨ao, ac, rfl⟩ := hs.shape
    exact ⟨ao, ac, he, hb, hs.mono (fun _ _ _ => trivial) fun _ _ _ => rfl⟩
theorem answer14 {S T : Nat → Prop} {w : World} {v u : Value} {s r : List Tab} {t : List Cell} {n : Int} {b : Bool} (h : answerT s n t = (r, b)) (h2 : newA s n t = b) (hs : Seq tabE S w v s) (ht : Seq cellE T w u t) (hl : s.length ≤ 1000) (ha : ∀ x ∈ s, x.ans.length ≤ 1000000) :
    Calls Tryz.prog 14 #[v, .int .i64 n, u] w (fun e w' => ∃ ao ac, e = .returned (.tuple #[.slice ao r.length ac, .bool b]) ∧ Below w.heap.size w w' ∧ Seq tabE (fun _ => True) w' (.slice ao r.length ac) r) :=
  (AnswerP_spec hs ht hl ha).mono fun e w' ⟨o, he, hb, hs⟩ => by
    rw [h] at hs
    rw [h2] at he
    obtain ⟨ao, ac, rfl⟩ := hs.shape
    exact ⟨ao, ac, he, hb, hs.mono (fun _ _ _ => trivial) fun _ _ _ => rfl⟩
theorem sort14 {S : Nat → Prop} {w : World} {v : Value} {s r : List Tab} {p : List Int} (h : sortTs s = r) (h2 : placesS s = p) (hs : Seq tabE S w v s) (hg : GoodS s) :
    Calls Tryz.prog 16 #[v] w (fun e w' => ∃ ao ac po pc, e = .returned (.tuple #[.slice ao r.length ac, .slice po p.length pc]) ∧ Below w.heap.size w w' ∧ Seq tabE (fun _ => True) w' (.slice ao r.length ac) r ∧ Seq intE (fun _ => True) w' (.slice po p.length pc) p) :=
  (SortP14_spec hs hg).mono fun e w' ⟨o, q, he, hb, h3, h4⟩ => by
    rw [h] at h3
    rw [h2] at h4
    obtain ⟨ao, ac, rfl⟩ := h3.shape
    obtain ⟨po, pc, rfl⟩ := h4.shape
    exact ⟨ao, ac, po, pc, he, hb, h3.mono (fun _ _ _ => trivial) fun _ _ _ => rfl, h4.mono (fun _ _ _ => trivial) fun _ _ _ => rfl⟩

end Go.Proofs.YtckkjjiaecnciaaGreat
