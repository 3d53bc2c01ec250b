/-
  Layer 12, head: p; literal slices.
  Layer 12, head: what the document fixes, reckoned.
-/
import Derived.Test.YtceipnlpofebmaaMtR
import Derived.Test.YtceipnlpofebmaaRun
namespace Go.Proofs.Ytceipnlpofebmaa
section
open Go Go.RowKit

def CellW2 (c : Cell) : Prop := IntOK c.kind ∧ IntOK c.n ∧ c.name.size ≤ 140737488355328
def flatV (cs : List Cell) : List Value := cs.flatMap fun c => [.int .i64 c.kind, .string c.name, .int .i64 c.n]
theorem flatV_get : ∀ (cs : List Cell) (k j : Nat) (c : Cell), cs[k]? = some c → j < 3 → (flatV cs)[k * 3 + j]? = [Value.int .i64 c.kind, .string c.name, .int .i64 c.n][j]?
  | [], k, j, c, h, _ => by simp at h
  | d :: cs, 0, j, c, h, hj => by
    simp at h; subst h
    show ([Value.int .i64 d.kind, .string d.name, .int .i64 d.n] ++ flatV cs)[0 * 3 + j]? = _
    rw [List.getElem?_append_left (by simp; omega)]
    congr 1; omega
  | d :: cs, k + 1, j, c, h, hj => by
    simp at h
    show ([Value.int .i64 d.kind, .string d.name, .int .i64 d.n] ++ flatV cs)[(k + 1) * 3 + j]? = _
    rw [List.getElem?_append_right (by simp; omega), ← flatV_get cs k j c h hj]
    congr 1; simp; omega
/-- A literal slice of cells. -/
theorem seq_cells {T : TypeId} {w : World} {B n : Nat} {cs : List Cell} (h : Row T w B (flatV cs)) (hok : ∀ c ∈ cs, CellW2 c) (hn : n = cs.length) (hl : cs.length ≤ 1000) :
    Seq cellE (fun _ => True) w (.slice (some ⟨B, 0, none⟩) n n) cs :=
  Row.seq h hn (Nat.le_refl _) (by unfold maxLen; omega) (by omega) trivial fun k x hk => ⟨_, ⟨rfl, hok x (List.mem_of_getElem? hk)⟩, fun j hj => flatV_get cs k j x hk hj⟩
/-- A literal slice of slices. -/
theorem seq_rows {T : TypeId} {w : World} {B n : Nat} {vs : List Value} {ts : List (List Cell)} (h : Row T w B vs) (hn : n = ts.length) (hl : ts.length ≤ 1000)
    (hx : ∀ (k : Nat) (t : List Cell), ts[k]? = some t → ∃ v, vs[k]? = some v ∧ Seq cellE (fun _ => True) w v t) : Seq (seqE cellE) (fun _ => True) w (.slice (some ⟨B, 0, none⟩) n n) ts :=
  Row.seq h hn (Nat.le_refl _) (by unfold maxLen; omega) (by omega) trivial fun k t hk => by
    obtain ⟨v, h1, h2⟩ := hx k t hk
    refine ⟨[v], ⟨v, rfl, h2⟩, fun j hj => ?_⟩
    obtain rfl : j = 0 := by have : j < 1 := hj; omega
    simp [seqE, h1]
theorem own_cell1 {S : Nat → Prop} {base : Nat} {w : World} {B : Nat} {c : Cell} (h : Row 35 w B [.int .i64 c.kind, .string c.name, .int .i64 c.n]) (hb : base ≤ B) (hok : CellW2 c) : Own cellE S base 35 w (.slice (some ⟨B, 0, none⟩) 1 1) [c] := by
  refine ⟨[.int .i64 c.kind, .string c.name, .int .i64 c.n], ⟨rfl, .inr ⟨B, 1, #[.int .i64 c.kind, .string c.name, .int .i64 c.n], rfl, hb, h, Nat.le_refl _, by unfold maxLen; omega, rfl, rfl⟩⟩, fun k x hk => ?_⟩
  obtain rfl : k = 0 := by have := (List.getElem?_eq_some_iff.1 hk).1; simp at this; omega
  simp at hk; subst hk
  exact ⟨_, ⟨rfl, hok⟩, fun j _ => by simp⟩

/-- A name with cells behind it. -/
def pT (nm : ByteArray) (l : List Cell) : List Cell := ⟨3, nm, l.length⟩ :: l
set_option maxHeartbeats 1600000 in
theorem p_spec {S : Nat → Prop} {w : World} {v : Value} {nm : ByteArray} {l : List Cell} (hl : Seq cellE S w v l) (hlen : l.length ≤ 1000) (hnm : nm.size ≤ 1000) :
    Calls Try.prog 11 #[.string nm, v] w (Ret (fun r w' => Seq cellE (fun b => w.heap.size ≤ b) w' r (pT nm l)) w) := by
  have Hl := Lib.hid (hl.mono (T := fun b => b < w.heap.size) (fun _ _ h => h) fun _ _ _ => rfl)
  obtain ⟨la, lc, rfl, -⟩ := hl
  obtain ⟨W, hW⟩ : ∃ W, W = w.alloc (.cells #[.int .i64 3, .string nm, .int .i64 (l.length : Nat)] 35) := ⟨_, rfl⟩
  have hO := Lib.hid (show Own cellE (fun _ => True) w.heap.size 35 W (.slice (some ⟨w.heap.size, 0, none⟩) 1 1) [⟨3, nm, l.length⟩] by
    refine own_cell1 (c := ⟨3, nm, l.length⟩) (by rw [hW]; exact Row.new w [_, _, _] _ rfl) (Nat.le_refl _) ⟨⟨by show _ ≤ (3 : Int); decide, by show (3 : Int) ≤ _; decide⟩, ⟨by show _ ≤ (l.length : Int); omega, by show (l.length : Int) ≤ _; omega⟩, by show nm.size ≤ _; omega⟩)
  have hb := Lib.hid (show Below w.heap.size w W by rw [hW]; exact Seq.way)
  have hS := Lib.hid (Hl.out.at hb.out)
  have hpl : (pT nm l).length = l.length + 1 := rfl
  have HW := Lib.hid hW
  clear hW
  go_enter Try.func11, Try.ntmps11
  go_upto_region 2 with fail
  (try rw [← HW.out])
  obtain ⟨P, hP⟩ : ∃ P, P = pT nm l := ⟨_, rfl⟩
  have hPe := Lib.hid (show P = [⟨3, nm, l.length⟩] ++ l from hP)
  rw [← hP] at hpl
  have HP := Lib.hid hP
  clear hP
  go_wp2_with (at_builtin; refine wpList_appL (S := fun _ => True) (base := w.heap.size) (wm := W) (zs := P) rfl _ _ 24 rfl Try.underlying24 infoCellS rfl rfl hO.out (Below.refl _ _) rfl hS.out (fun b h _ => ⟨trivial, .inl h⟩) hPe.out (by omega) (by omega) (by have := hb.out.size; omega) ?_)
  intro ao cap w1 hown hk
  have Hown := Lib.hid hown
  have Hb := Lib.hid (hb.out.trans hk.below)
  clear hown hk
  go_wp2_with fail
  go_ret
  refine ⟨_, rfl, Hb.out, ?_⟩
  rw [← HP.out]
  exact (own_cellS (T := fun _ => False) Hown.out).seqB (by omega) fun b _ h => h.elim False.elim fun h => (Hown.out.blk h).1
end
section
open Go Go.RowKit

def hA : Cell := ⟨3, ⟨#[97]⟩, 0⟩
def hB : Cell := ⟨3, ⟨#[98]⟩, 0⟩
def hV : Cell := ⟨1, ⟨#[]⟩, 0⟩
def hP1 : Cell := ⟨3, ⟨#[112]⟩, 1⟩
def hQ2 : Cell := ⟨3, ⟨#[113]⟩, 2⟩
def hI : Cell := ⟨2, ⟨#[]⟩, 0⟩
def g0 : List Cell := [hP1, hA]
def g1 : List Cell := [hP1, hB]
def g2 : List Cell := [hQ2, hA, hA]
def gpv : List Cell := [hP1, hV]
def gqv : List Cell := [hQ2, hV, hV]
def gqab : List Cell := [hQ2, hA, hB]
def gi : List Cell := [hI]
theorem hd_f0 : factT g0 = true := by decide +kernel
theorem hd_f1 : factT g1 = true := by decide +kernel
theorem hd_f2 : factT g2 = true := by decide +kernel
theorem hd_s1 : cmpT g0 g1 < 0 := by decide +kernel
theorem hd_s2 : cmpT g1 g2 < 0 := by decide +kernel
theorem hd_s3 : cmpT g0 g2 < 0 := by decide +kernel
theorem hd_r1 : RowT [g1, g2] := ⟨by unfold SortT; simp [hd_s2], by simp [hd_f1, hd_f2], by simp⟩
theorem hd_r2 : RowT [g0, g1] := ⟨by unfold SortT; simp [hd_s1], by simp [hd_f0, hd_f1], by simp⟩
theorem hd_r : RowT [g0, g1, g2] := ⟨by unfold SortT; simp [hd_s1, hd_s2, hd_s3], by simp [hd_f0, hd_f1, hd_f2], by simp⟩
theorem hd_r0 : RowT [] := rowT_nil
theorem hd_a1 : addO [g1, g2] g0 = [g0, g1, g2] := by decide +kernel
theorem hd_a1e : addE [g1, g2] g0 = 0 := by decide +kernel
theorem hd_a2 : addO [] gpv = [] := by decide +kernel
theorem hd_a2e : addE [] gpv = 120 := by decide +kernel
theorem hd_d1 : dropO [g0, g1, g2] g1 = [g0, g2] := by decide +kernel
theorem hd_d1e : dropE [g0, g1, g2] g1 = 0 := by decide +kernel
theorem hd_d2 : dropO [g0, g1, g2] gqab = [] := by decide +kernel
theorem hd_d2e : dropE [g0, g1, g2] gqab = 3 := by decide +kernel
theorem hd_d3 : dropO [g0, g1, g2] gi = [] := by decide +kernel
theorem hd_d3e : dropE [g0, g1, g2] gi = 120 := by decide +kernel
theorem hd_a3 : addO [g0, g1, g2] g2 = [g0, g1, g2] := by decide +kernel
theorem hd_a3e : addE [g0, g1, g2] g2 = 0 := by decide +kernel
theorem hd_l1 : lessT [g1, g2] [g0, g1] = [g2] := by decide +kernel
theorem hd_l2 : lessT [g0, g1] [g1, g2] = [g0] := by decide +kernel
theorem hd_w1 : rowR [g0, g1, g2] = true := by decide +kernel
theorem hd_w2 : rowR [g1, g0] = false := by decide +kernel
theorem hd_w3 : rowR [g0, g0] = false := by decide +kernel
theorem hd_fn : factT [] = false := by decide +kernel
theorem hd_m1 : findT gpv [g0, g1, g2] = [g0, g1] := by decide +kernel
theorem hd_m2 : findT gqv [g0, g1, g2] = [g2] := by decide +kernel
theorem hd_h1 : (factT g1 && decide (g1 ∈ [g0, g1, g2])) = true := by decide +kernel
theorem hd_h2 : (factT gpv && decide (gpv ∈ [g0, g1, g2])) = false := by decide +kernel
theorem hd_c1 : RightT gpv := by decide +kernel
theorem hd_c2 : RightT gqv := by decide +kernel
end
end Go.Proofs.Ytceipnlpofebmaa
