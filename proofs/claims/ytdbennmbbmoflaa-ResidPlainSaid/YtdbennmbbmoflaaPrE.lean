/-
  Layer 18, the program: what a kind is of in a rule; all that can be done.
-/
import Derived.Test.YtdbennmbbmoflaaPrD
namespace Go.Proofs.Ytdbennmbbmoflaa
open Go Go.RowKit

/-- 'k.of(s, a)', k and s in boxes. -/
structure Clo (S : Nat → Prop) (w : World) (g : Prog) (j kb sb : Nat) : Prop where
  hj : j < 5
  ex : ∃ p q va vb vf vr vo, Row 63 w kb [isFn p q, .bool (kNeg j), .bool (kGoes j)] ∧ IsBox w p q (kFn j) (kWant j) ∧ Row 57 w sb [va, vb, vf, vr, vo] ∧ StateV S w (.agg #[va, vb, vf, vr, vo]) g

theorem StateV.mono {S T : Nat → Prop} {w w' : World} {v : Value} {g : Prog} (h : StateV S w v g)
    (hT : ∀ b, S b → b < w.heap.size → T b) (hw : ∀ b, S b → b < w.heap.size → w'.heap[b]? = w.heap[b]?) : StateV T w' v g := by
  obtain ⟨va, vb, vf, vr, vo, rfl, h1, h2, h3, h4⟩ := h
  exact ⟨va, vb, vf, vr, vo, rfl, h1.mono hT hw, h2.mono hT hw, h3.mono hT hw, h4.mono hT hw⟩
theorem StateV.at {S : Nat → Prop} {w w' : World} {v : Value} {g : Prog} (h : StateV S w v g) (hb : Below w.heap.size w w') : StateV S w' v g :=
  h.mono (fun _ h _ => h) fun b _ hlt => hb.block b hlt
theorem StateV.shape {S : Nat → Prop} {w : World} {v : Value} {g : Prog} (h : StateV S w v g) : ∃ aa ac ra rc fa fc ha hc oa oc, v = .agg #[.slice aa g.atoms.length ac, .slice ra g.rules.length rc, .slice fa g.atoms.length fc, .slice ha g.atoms.length hc, .slice oa g.atoms.length oc] := by
  obtain ⟨va, vb, vf, vr, vo, rfl, ⟨_, _, he, ⟨aa, ac, rfl, -⟩, ⟨ra, rc, rfl, -⟩⟩, ⟨fa, fc, rfl, -⟩, ⟨ha, hc, rfl, -⟩, ⟨oa, oc, rfl, -⟩⟩ := h
  simp only [Value.agg.injEq, Array.mk.injEq, List.cons.injEq, and_true] at he
  obtain ⟨rfl, rfl⟩ := he
  exact ⟨aa, ac, ra, rc, fa, fc, ha, hc, oa, oc, by simp [factsL, hasL, followsL_len]⟩

theorem Clo.at {S : Nat → Prop} {w w' : World} {g : Prog} {j kb sb : Nat} (h : Clo S w g j kb sb) (hb : Below w.heap.size w w') : Clo S w' g j kb sb := by
  obtain ⟨p, q, va, vb, vf, vr, vo, h1, h2, h3, h4⟩ := h.ex
  exact ⟨h.hj, p, q, va, vb, vf, vr, vo, h1.below hb h1.lt, h2.at hb, h3.below hb h3.lt, h4.at hb⟩

set_option maxHeartbeats 1600000 in
theorem clo_spec {S : Nat → Prop} {w : World} {g : Prog} {j kb sb : Nat} {a : Int} (h : Clo S w g j kb sb) (ha : 0 ≤ a) (ha2 : a < g.atoms.length) :
    Calls Try.prog 61 #[.int .i64 a, .pointer (some ⟨kb, 0, none⟩), .pointer (some ⟨sb, 0, none⟩)] w (RetV (.bool (isGone g (followsL g) ((j : Int) + 1) a)) w) := by
  obtain ⟨p, q, va, vb, vf, vr, vo, h1, h2, h3, h4⟩ := h.ex
  have hj := h.hj
  clear h
  have hs := Lib.hid h4
  have c0 := h1.cell (j := 0) (by simp)
  have d0 := h3.cell (j := 0) (by simp)
  have d1 := h3.cell (j := 1) (by simp)
  have d2 := h3.cell (j := 2) (by simp)
  have d3 := h3.cell (j := 3) (by simp)
  have d4 := h3.cell (j := 4) (by simp)
  simp only [List.getElem_cons_zero, List.getElem_cons_succ, isFn] at c0 d0 d1 d2 d3 d4
  clear h1 h3 h4
  go_enter Try.func61, Try.ntmps61
  go_wp2_with fail
  refine (kis_spec hj h2 hs.out ha ha2).mono ?_
  rintro e w' ⟨rfl, hb⟩
  go_wp2
  go_ret
  exact ⟨rfl, hb⟩

set_option maxHeartbeats 1600000 in
theorem cloD_spec {S : Nat → Prop} {w : World} {g : Prog} {j kb sb : Nat} {a : Int} (h : Clo S w g j kb sb) (ha : 0 ≤ a) (ha2 : a < g.atoms.length) :
    Calls Try.prog 38 #[.int .i64 a, .pointer (some ⟨kb, 0, none⟩), .pointer (some ⟨sb, 0, none⟩)] w (RetV (.bool (isGone g (followsL g) ((j : Int) + 1) a)) w) := by
  obtain ⟨p, q, va, vb, vf, vr, vo, h1, h2, h3, h4⟩ := h.ex
  have hj := h.hj
  clear h
  have hs := Lib.hid h4
  have c0 := h1.cell (j := 0) (by simp)
  have d0 := h3.cell (j := 0) (by simp)
  have d1 := h3.cell (j := 1) (by simp)
  have d2 := h3.cell (j := 2) (by simp)
  have d3 := h3.cell (j := 3) (by simp)
  have d4 := h3.cell (j := 4) (by simp)
  simp only [List.getElem_cons_zero, List.getElem_cons_succ, isFn] at c0 d0 d1 d2 d3 d4
  clear h1 h3 h4
  go_enter Try.func38, Try.ntmps38
  go_wp2_with fail
  refine (kis_spec hj h2 hs.out ha ha2).mono ?_
  rintro e w' ⟨rfl, hb⟩
  go_wp2
  go_ret
  exact ⟨rfl, hb⟩

def cloV (kb sb : Nat) : Value := .func (.func 61) #[] #[.pointer (some ⟨kb, 0, none⟩), .pointer (some ⟨sb, 0, none⟩)]

/-- A number that tells whether something is there. -/
def HasV (b : Bool) (w : World) (e : Ending) (w' : World) : Prop := ∃ r : Int, e = .returned (.int .i64 r) ∧ decide (0 ≤ r) = b ∧ Below w.heap.size w w'

set_option maxHeartbeats 1600000 in
theorem IndexFunc_spec {S T : Nat → Prop} {w : World} {v : Value} {g : Prog} {j kb sb : Nat} {l : List Int} (hl : Seq intE T w v l) (h : Clo S w g j kb sb) (hin : ∀ x ∈ l, 0 ≤ x ∧ x < g.atoms.length) :
    Calls Try.prog 62 #[v, .func (.func 61) #[] #[.pointer (some ⟨kb, 0, none⟩), .pointer (some ⟨sb, 0, none⟩)]] w (HasV (l.any (isGone g (followsL g) ((j : Int) + 1))) w) := by
  obtain ⟨P, hP⟩ : ∃ P, P = isGone g (followsL g) ((j : Int) + 1) := ⟨_, rfl⟩
  have HP := Lib.hid hP
  obtain ⟨ao, cap, rfl, h1, h2, h3, h4, h5⟩ := hl
  rw [← hP]
  clear hP
  go_enter Try.func62, Try.ntmps62
  go_wp2_with fail
  go_loopw [8] (fun i wr => ∃ k : Nat, k ≤ l.length ∧ i = .int .i64 k ∧ Hid (∀ x ∈ l.take k, P x = false) ∧ Below w.heap.size w wr) (fun i _ => l.length - (intOf i).toNat)
  case atStart => exact ⟨0, Nat.zero_le _, rfl, Lib.hid (by simp), Seq.way⟩
  case round =>
    obtain ⟨k, hk, rfl, hno, hb⟩ := hrel
    by_cases hlt : k < l.length
    · obtain ⟨b, off, rfl, -, hbl, hc', -⟩ := h5.int hlt
      have hc := (hb.cell (p := ⟨b, off + k, none⟩) hbl).trans hc'
      have hx := hin _ (List.getElem_mem hlt)
      have hclo := Lib.hid (h.at hb)
      clear h5 hin
      obtain ⟨x, hxe⟩ : ∃ x, x = l[k] := ⟨_, rfl⟩
      rw [← hxe] at hc hx
      have Hxe := Lib.hid hxe
      clear hxe
      go_wp2_with fail
      refine (clo_spec hclo.out hx.1 hx.2).mono ?_
      rw [← HP.out]
      rintro e w' ⟨rfl, hb'⟩
      have hbw := hb.trans (hb'.mono hb.size)
      cases hp : P x
      · have hst := Lib.hid (show ∀ y ∈ l.take (k + 1), P y = false by
          intro y hy
          rw [List.take_succ_eq_append_getElem hlt] at hy
          rcases List.mem_append.1 hy with h | h
          · exact hno.out y h
          · rw [List.mem_singleton] at h; rw [h, ← Hxe.out]; exact hp)
        clear hp
        go_wp2_with fail
        go_roundw
        case rel => exact ⟨k + 1, hlt, by go_num, hst, hbw⟩
        case measure => simp [intOf]; omega
      · have hst := Lib.hid (show l.any P = true by
          rw [List.any_eq_true]; exact ⟨l[k], List.getElem_mem hlt, by rw [← Hxe.out]; exact hp⟩)
        clear hp
        go_wp2_with fail
        go_ret
        exact ⟨_, rfl, by rw [hst.out]; simp, hbw⟩
    · obtain rfl : k = l.length := by omega
      have hst := Lib.hid (show l.any P = false by
        rw [List.any_eq_false]; intro x hx; rw [hno.out x (by rw [List.take_length]; exact hx)]; simp)
      clear hno
      go_wp2_with fail
      go_ret
      exact ⟨_, rfl, by rw [hst.out]; rfl, hb⟩

theorem ContainsFunc_spec {S T : Nat → Prop} {w : World} {v : Value} {g : Prog} {j kb sb : Nat} {l : List Int} (hl : Seq intE T w v l) (h : Clo S w g j kb sb) (hin : ∀ x ∈ l, 0 ≤ x ∧ x < g.atoms.length) :
    Calls Try.prog 60 #[v, .func (.func 61) #[] #[.pointer (some ⟨kb, 0, none⟩), .pointer (some ⟨sb, 0, none⟩)]] w (RetV (.bool (l.any (isGone g (followsL g) ((j : Int) + 1)))) w) := by
  have hl' := hl
  obtain ⟨ao, cap, rfl, -⟩ := hl
  go_enter Try.func60, Try.ntmps60
  go_wp2_with fail
  refine (IndexFunc_spec hl' h hin).mono ?_
  rintro e w' ⟨r, rfl, hr, hb⟩
  have hr := Lib.hid hr
  go_wp2_with fail
  all_goals go_ret
  all_goals exact ⟨ret_bool (by rw [← hr.out]), hb⟩
end Go.Proofs.Ytdbennmbbmoflaa
