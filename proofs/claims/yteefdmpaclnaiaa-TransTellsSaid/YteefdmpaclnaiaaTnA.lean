/-
  Layer 13: changes and bases as values; New, Begin, Back.
-/
import Derived.Test.YteefdmpaclnaiaaTmZ
namespace Go.Proofs.Yteefdmpaclnaiaa
open Go Go.RowKit

/-- A change. -/
structure Chg where
  add : Bool
  t : List Cell

def changeE : Elt Chg where
  sz := 2
  pos := by decide
  R := fun S w c cs => ∃ v, cs = [.bool c.add, v] ∧ Seq cellE S w v c.t
  len := by rintro _ _ _ _ ⟨v, rfl, _⟩; rfl
  one := by
    rintro _ _ _ _ ⟨v, rfl, ⟨ao, cap, rfl, _⟩⟩ u hu
    simp at hu; rcases hu with rfl | rfl <;> rfl
  mono := by
    rintro S T w w' xs _ ⟨v, rfl, h⟩ hT hw
    exact ⟨v, rfl, h.mono hT hw⟩

theorem SeqAt.chg {S : Nat → Prop} {w : World} {ao : Option Addr} {xs : List Chg} (h : SeqAt changeE S w ao xs) {k : Nat} (hk : k < xs.length) :
    ∃ b off ta tc, ao = some ⟨b, off, none⟩ ∧ S b ∧ b < w.heap.size ∧ w.cell? ⟨b, off + k * 2, none⟩ = some (.bool xs[k].add) ∧
      w.cell? ⟨b, off + k * 2 + 1, none⟩ = some (.slice ta xs[k].t.length tc) ∧ Seq cellE S w (.slice ta xs[k].t.length tc) xs[k].t := by
  obtain ⟨b, off, cs, h1, h2, h3, ⟨v, rfl, hv⟩, h5⟩ := h k _ (List.getElem?_eq_getElem hk)
  obtain ⟨ta, tc, rfl, _⟩ := id hv
  exact ⟨b, off, ta, tc, h1, h2, h3, h5 0 (by decide), h5 1 (by decide), hv⟩

def ChgV (S : Nat → Prop) (w : World) (v : Value) (c : Chg) : Prop := ∃ ta tc, v = .agg #[.bool c.add, .slice ta c.t.length tc] ∧ Seq cellE S w (.slice ta c.t.length tc) c.t
theorem ChgV.mono {S T : Nat → Prop} {w w' : World} {v : Value} {c : Chg} (h : ChgV S w v c) (hT : ∀ b, S b → b < w.heap.size → T b) (hw : ∀ b, S b → b < w.heap.size → w'.heap[b]? = w.heap[b]?) : ChgV T w' v c := by
  obtain ⟨ta, tc, rfl, h⟩ := h
  exact ⟨ta, tc, rfl, h.mono hT hw⟩
theorem ChgV.at {S : Nat → Prop} {w w' : World} {v : Value} {c : Chg} (h : ChgV S w v c) (hb : Below w.heap.size w w') : ChgV S w' v c :=
  h.mono (fun _ h _ => h) fun b _ hlt => hb.block b hlt

/-- A base. -/
structure Bas where
  facts : List (List Cell)
  ver : Int
  on : Bool
  todo : List Chg

def BasV (S : Nat → Prop) (w : World) (v : Value) (b : Bas) : Prop :=
  ∃ fa fc ta tc, v = .agg #[.slice fa b.facts.length fc, .int .i64 b.ver, .bool b.on, .slice ta b.todo.length tc] ∧ IntOK b.ver ∧
    Seq (seqE cellE) S w (.slice fa b.facts.length fc) b.facts ∧ Seq changeE S w (.slice ta b.todo.length tc) b.todo
theorem BasV.mono {S T : Nat → Prop} {w w' : World} {v : Value} {b : Bas} (h : BasV S w v b) (hT : ∀ b, S b → b < w.heap.size → T b) (hw : ∀ b, S b → b < w.heap.size → w'.heap[b]? = w.heap[b]?) : BasV T w' v b := by
  obtain ⟨fa, fc, ta, tc, rfl, h1, h2, h3⟩ := h
  exact ⟨fa, fc, ta, tc, rfl, h1, h2.mono hT hw, h3.mono hT hw⟩
theorem BasV.at {S : Nat → Prop} {w w' : World} {v : Value} {b : Bas} (h : BasV S w v b) (hb : Below w.heap.size w w') : BasV S w' v b :=
  h.mono (fun _ h _ => h) fun b _ hlt => hb.block b hlt
theorem BasV.bnd {S : Nat → Prop} {w : World} {v : Value} {b : Bas} (h : BasV S w v b) : BasV (fun b => S b ∧ b < w.heap.size) w v b :=
  h.mono (fun _ h hl => ⟨h, hl⟩) fun _ _ _ => rfl
/-- From blocks below B on, a world that is the same there. -/
theorem BasV.low {S : Nat → Prop} {B : Nat} {w w' : World} {v : Value} {b : Bas} (h : BasV S w v b) (hb : Below B w w') (hB : ∀ b, S b → b < B) : BasV S w' v b :=
  h.mono (fun _ h _ => h) fun b h _ => hb.block b (hB b h)

def bas0 : Bas := ⟨[], 0, false, []⟩
theorem bas0_val (S : Nat → Prop) (w : World) : BasV S w (.agg #[.slice none 0 0, .int .i64 0, .bool false, .slice none 0 0]) bas0 :=
  ⟨none, 0, none, 0, rfl, by unfold IntOK bas0; exact ⟨by decide, by decide⟩, Seq.nil _ _ _, Seq.nil _ _ _⟩

theorem NewP_spec {S : Nat → Prop} {w : World} : Calls Try.prog 27 #[] w (Ret (fun o w' => BasV S w' o bas0) w) := by
  go_enter Try.func27, Try.ntmps27
  go_wp2_with fail
  refine bodyPost_ret (v := .agg #[.slice none 0 0, .int .i64 0, .bool false, .slice none 0 0]) (by simp [results, Try.results27, go_sem]) rfl ?_
  exact ⟨_, rfl, Seq.way, bas0_val _ _⟩
theorem NewR_spec {S : Nat → Prop} {w : World} : Calls Try.prog 28 #[] w (Ret (fun o w' => BasV S w' o bas0) w) := by
  go_enter Try.func28, Try.ntmps28
  go_wp2_with fail
  refine bodyPost_ret (v := .agg #[.slice none 0 0, .int .i64 0, .bool false, .slice none 0 0]) (by simp [results, Try.results28, go_sem]) rfl ?_
  exact ⟨_, rfl, Seq.way, bas0_val _ _⟩

def beginO (b : Bas) : Bas := if b.on = true then b else { b with on := true }
def beginE (b : Bas) : Int := if b.on = true then 130 else 0
theorem BeginP_spec {S : Nat → Prop} {w : World} {v : Value} {b : Bas} (hb : BasV S w v b) : Calls Try.prog 15 #[v] w (RetE (fun o w' => BasV S w' o (beginO b)) (beginE b) w) := by
  obtain ⟨fa, fc, ta, tc, rfl, h1, h2, h3⟩ := hb
  have H2 := Lib.hid h2
  have H3 := Lib.hid h3
  clear h2 h3
  go_enter Try.func15, Try.ntmps15
  cases hon : b.on
  · have he := Lib.hid (show beginE b = 0 by unfold beginE; rw [hon]; rfl)
    have ho := Lib.hid (show beginO b = { b with on := true } by unfold beginO; rw [hon]; rfl)
    go_wp2_with fail
    refine bodyPost_ret (v := .tuple #[.agg #[.slice fa b.facts.length fc, .int .i64 b.ver, .bool true, .slice ta b.todo.length tc], .int .i64 0]) (by simp [results, Try.results15, go_sem]) rfl ?_
    exact ⟨_, by rw [he.out], Seq.way, by rw [ho.out]; exact ⟨fa, fc, ta, tc, rfl, h1, H2.out.at Seq.way, H3.out.at Seq.way⟩⟩
  · have he := Lib.hid (show beginE b = 130 by unfold beginE; rw [hon]; rfl)
    have ho := Lib.hid (show beginO b = b by unfold beginO; rw [hon]; rfl)
    have hon' := Lib.hid hon
    go_wp2_with fail
    refine bodyPost_ret (v := .tuple #[.agg #[.slice fa b.facts.length fc, .int .i64 b.ver, .bool true, .slice ta b.todo.length tc], .int .i64 130]) (by simp [results, Try.results15, go_sem]) rfl ?_
    exact ⟨_, by rw [he.out], Seq.way, by rw [ho.out]; exact ⟨fa, fc, ta, tc, by rw [hon'.out], h1, H2.out.at Seq.way, H3.out.at Seq.way⟩⟩
theorem BeginR_spec {S : Nat → Prop} {w : World} {v : Value} {b : Bas} (hb : BasV S w v b) : Calls Try.prog 16 #[v] w (RetE (fun o w' => BasV S w' o (beginO b)) (beginE b) w) := by
  obtain ⟨fa, fc, ta, tc, rfl, h1, h2, h3⟩ := hb
  have H2 := Lib.hid h2
  have H3 := Lib.hid h3
  clear h2 h3
  go_enter Try.func16, Try.ntmps16
  cases hon : b.on
  · have he := Lib.hid (show beginE b = 0 by unfold beginE; rw [hon]; rfl)
    have ho := Lib.hid (show beginO b = { b with on := true } by unfold beginO; rw [hon]; rfl)
    go_wp2_with fail
    refine bodyPost_ret (v := .tuple #[.agg #[.slice fa b.facts.length fc, .int .i64 b.ver, .bool true, .slice ta b.todo.length tc], .int .i64 0]) (by simp [results, Try.results16, go_sem]) rfl ?_
    exact ⟨_, by rw [he.out], Seq.way, by rw [ho.out]; exact ⟨fa, fc, ta, tc, rfl, h1, H2.out.at Seq.way, H3.out.at Seq.way⟩⟩
  · have he := Lib.hid (show beginE b = 130 by unfold beginE; rw [hon]; rfl)
    have ho := Lib.hid (show beginO b = b by unfold beginO; rw [hon]; rfl)
    have hon' := Lib.hid hon
    go_wp2_with fail
    refine bodyPost_ret (v := .tuple #[.agg #[.slice fa b.facts.length fc, .int .i64 b.ver, .bool true, .slice ta b.todo.length tc], .int .i64 130]) (by simp [results, Try.results16, go_sem]) rfl ?_
    exact ⟨_, by rw [he.out], Seq.way, by rw [ho.out]; exact ⟨fa, fc, ta, tc, by rw [hon'.out], h1, H2.out.at Seq.way, H3.out.at Seq.way⟩⟩

theorem Row.four {T : TypeId} {w : World} {B : Nat} {a b c d : Value} (h : Row T w B [a, b, c, d]) :
    w.cell? ⟨B, 0, none⟩ = some a ∧ w.cell? ⟨B, 1, none⟩ = some b ∧ w.cell? ⟨B, 2, none⟩ = some c ∧ w.cell? ⟨B, 3, none⟩ = some d ∧
      w.frozen? ⟨B, 0, none⟩ = false ∧ w.frozen? ⟨B, 1, none⟩ = false ∧ w.frozen? ⟨B, 2, none⟩ = false ∧ w.frozen? ⟨B, 3, none⟩ = false :=
  ⟨h.cell (j := 0) (by simp), h.cell (j := 1) (by simp), h.cell (j := 2) (by simp), h.cell (j := 3) (by simp), h.frozen 0, h.frozen 1, h.frozen 2, h.frozen 3⟩

theorem below_set4 {B g : Nat} {w w' : World} {p q r s : Value} (h : Below B w w') (hg : B ≤ g) :
    Below B w ((((w'.setCell ⟨g, 0, none⟩ p).setCell ⟨g, 1, none⟩ q).setCell ⟨g, 2, none⟩ r).setCell ⟨g, 3, none⟩ s) :=
  (((h.setCell hg _).setCell hg _).setCell hg _).setCell hg _
def ended (b : Bas) : Bas := { b with on := false, todo := [] }
theorem ended_spec {S : Nat → Prop} {w : World} {v : Value} {b : Bas} (hb : BasV S w v b) : Calls Try.prog 46 #[v] w (Ret (fun o w' => BasV S w' o (ended b)) w) := by
  obtain ⟨fa, fc, ta, tc, rfl, h1, h2, h3⟩ := hb
  have H2 := Lib.hid h2
  clear h2 h3
  go_enter Try.func46, Try.ntmps46
  go_wp2_with fail
  refine bodyPost_ret (v := .agg #[.slice fa b.facts.length fc, .int .i64 b.ver, .bool false, .slice none 0 0]) (by simp [results, Try.results46, go_sem]) rfl ?_
  exact ⟨_, rfl, Seq.way, ⟨fa, fc, none, 0, rfl, h1, H2.out.at Seq.way, Seq.nil _ _ _⟩⟩

def backO (b : Bas) : Bas := if b.on = true then ended b else b
def backE (b : Bas) : Int := if b.on = true then 0 else 131
theorem BackP_spec {S : Nat → Prop} {w : World} {v : Value} {b : Bas} (hb : BasV S w v b) : Calls Try.prog 21 #[v] w (RetE (fun o w' => BasV S w' o (backO b)) (backE b) w) := by
  have Hb := Lib.hid hb
  obtain ⟨fa, fc, ta, tc, rfl, h1, h2, h3⟩ := hb
  have H2 := Lib.hid h2
  have H3 := Lib.hid h3
  clear h2 h3
  go_enter Try.func21, Try.ntmps21
  cases hon : b.on
  · have he := Lib.hid (show backE b = 131 by unfold backE; rw [hon]; rfl)
    have ho := Lib.hid (show backO b = b by unfold backO; rw [hon]; rfl)
    have hon' := Lib.hid hon
    go_wp2_with fail
    refine bodyPost_ret (v := .tuple #[.agg #[.slice fa b.facts.length fc, .int .i64 b.ver, .bool false, .slice ta b.todo.length tc], .int .i64 131]) (by simp [results, Try.results21, go_sem]) rfl ?_
    exact ⟨_, by rw [he.out], Seq.way, by rw [ho.out]; exact ⟨fa, fc, ta, tc, by rw [hon'.out], h1, H2.out.at Seq.way, H3.out.at Seq.way⟩⟩
  · have he := Lib.hid (show backE b = 0 by unfold backE; rw [hon]; rfl)
    have ho := Lib.hid (show backO b = ended b by unfold backO; rw [hon]; rfl)
    rw [hon] at Hb
    clear hon
    go_wp2_with fail
    refine (ended_spec (Hb.out.bnd.at Seq.way)).mono ?_
    rintro e w1 ⟨v1, rfl, hb1, hs1⟩
    have Hs1 := Lib.hid hs1
    obtain ⟨ga, gc, ua, uc, rfl, -⟩ := hs1
    have hz1 := hb1.size
    simp at hz1
    have hb1' : Below w.heap.size w w1 := Below.trans Seq.way (hb1.mono (by simp <;> omega))
    obtain ⟨c0, c1, c2, c3, d0, d1, d2, d3⟩ := ((Row.new _ [_, _, _, _] _ (by simp) : Row 25 _ (w.heap.size + 1) _).below hb1 (by simp)).four
    go_wp2_with fail
    refine bodyPost_ret (v := .tuple #[.agg #[.slice ga (ended b).facts.length gc, .int .i64 (ended b).ver, .bool (ended b).on, .slice ua (ended b).todo.length uc], .int .i64 0]) (by simp [results, Try.results21, go_sem, c0, c1, c2, c3]) rfl ?_
    exact ⟨_, by rw [he.out], below_set4 hb1' (by omega), by rw [ho.out]; exact (Hs1.out.low (B := w.heap.size) (below_set4 (Below.refl _ _) (by omega)) fun _ h => h.2).mono (fun _ h _ => h.1) fun _ _ _ => rfl⟩
theorem BackR_spec {S : Nat → Prop} {w : World} {v : Value} {b : Bas} (hb : BasV S w v b) : Calls Try.prog 22 #[v] w (RetE (fun o w' => BasV S w' o (backO b)) (backE b) w) := by
  obtain ⟨fa, fc, ta, tc, rfl, h1, h2, h3⟩ := hb
  have H2 := Lib.hid h2
  have H3 := Lib.hid h3
  clear h2 h3
  go_enter Try.func22, Try.ntmps22
  cases hon : b.on
  · have he := Lib.hid (show backE b = 131 by unfold backE; rw [hon]; rfl)
    have ho := Lib.hid (show backO b = b by unfold backO; rw [hon]; rfl)
    have hon' := Lib.hid hon
    go_wp2_with fail
    refine bodyPost_ret (v := .tuple #[.agg #[.slice fa b.facts.length fc, .int .i64 b.ver, .bool false, .slice ta b.todo.length tc], .int .i64 131]) (by simp [results, Try.results22, go_sem]) rfl ?_
    exact ⟨_, by rw [he.out], Seq.way, by rw [ho.out]; exact ⟨fa, fc, ta, tc, by rw [hon'.out], h1, H2.out.at Seq.way, H3.out.at Seq.way⟩⟩
  · have he := Lib.hid (show backE b = 0 by unfold backE; rw [hon]; rfl)
    have ho := Lib.hid (show backO b = ended b by unfold backO; rw [hon]; rfl)
    clear hon
    go_wp2_with fail
    refine bodyPost_ret (v := .tuple #[.agg #[.slice fa b.facts.length fc, .int .i64 b.ver, .bool false, .slice none 0 0], .int .i64 0]) (by simp [results, Try.results22, go_sem]) rfl ?_
    exact ⟨_, by rw [he.out], Seq.way, by rw [ho.out]; exact ⟨fa, fc, none, 0, rfl, h1, H2.out.at Seq.way, Seq.nil _ _ _⟩⟩
end Go.Proofs.Yteefdmpaclnaiaa
