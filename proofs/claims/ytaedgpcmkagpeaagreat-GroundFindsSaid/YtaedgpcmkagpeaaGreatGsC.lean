/-
  Layer 16, the document: the orders of rows of numbers and of rules.
-/
import Derived.Test.YtaedgpcmkagpeaaGreatGsB
import Derived.Test.YtaedgpcmkagpeaaGreatTmC
namespace Go.Proofs.YtaedgpcmkagpeaaGreat
open Go Go.RowKit

theorem lexZ_drop : ∀ (k : Nat) {l m : List Int}, (∀ j, j < k → l[j]? = m[j]?) → k ≤ l.length → k ≤ m.length → lexZ l m = lexZ (l.drop k) (m.drop k)
  | 0, _, _, _, _, _ => by simp
  | k + 1, [], _, _, h, _ => by simp at h
  | k + 1, _ :: _, [], _, _, h => by simp at h
  | k + 1, a :: l, b :: m, h, h1, h2 => by
    have e : a = b := by have := h 0 (by omega); simpa using this
    subst e
    rw [lexZ_cons, if_neg (by simp [cmpZ_zero.2 rfl]), List.drop_succ_cons, List.drop_succ_cons]
    exact lexZ_drop k (fun j hj => by have := h (j + 1) (by omega); simpa using this) (by simpa using h1) (by simpa using h2)
/-- The same sign. -/
def Sgn (r s : Int) : Prop := (r < 0 ↔ s < 0) ∧ (r = 0 ↔ s = 0)
def SmI (l : List Int) : Prop := ∀ x ∈ l, -1 ≤ x ∧ x ≤ 1000000000
theorem lexZ_end {l m : List Int} {k : Nat} (h : ∀ j, j < k → l[j]? = m[j]?) (h1 : k ≤ l.length) (h2 : k ≤ m.length) (hk : k = l.length ∨ k = m.length) : Sgn ((l.length : Int) - m.length) (lexZ l m) := by
  rw [lexZ_drop k h h1 h2]
  rcases hk with rfl | rfl
  · rw [List.drop_length]
    rcases Nat.lt_or_ge l.length m.length with h3 | h3
    · rw [List.drop_eq_getElem_cons h3]
      unfold lexZ Sgn; omega
    · rw [List.drop_eq_nil_of_le h3]
      unfold lexZ Sgn; omega
  · rw [List.drop_length]
    rcases Nat.lt_or_ge m.length l.length with h3 | h3
    · rw [List.drop_eq_getElem_cons h3]
      unfold lexZ Sgn; omega
    · rw [List.drop_eq_nil_of_le h3]
      unfold lexZ Sgn; omega
theorem lexZ_ne {l m : List Int} {k : Nat} (h : ∀ j, j < k → l[j]? = m[j]?) (h1 : k < l.length) (h2 : k < m.length) (hk : l[k] ≠ m[k]) : lexZ l m = cmpZ l[k] m[k] := by
  rw [lexZ_drop k h (by omega) (by omega), List.drop_eq_getElem_cons h1, List.drop_eq_getElem_cons h2, lexZ_cons, if_pos (fun e => hk (cmpZ_zero.1 e))]
theorem sgn_cmpZ (a b : Int) : Sgn (a - b) (cmpZ a b) := by
  unfold Sgn cmpZ
  split <;> (try split) <;> omega

set_option maxHeartbeats 1600000 in
theorem RowR_spec16 {S T : Nat → Prop} {w : World} {v u : Value} {l m : List Int} (hl : Seq intE S w v l) (hm : Seq intE T w u m) (bl : SmI l) (bm : SmI m) :
    Calls Tryz.prog 67 #[v, u] w (Ret (fun o _ => ∃ r : Int, o = .int .i64 r ∧ Sgn r (lexZ l m)) w) := by
  obtain ⟨ao, cap, rfl, h1, h2, h3, h4, h5⟩ := hl
  obtain ⟨bo, cap', rfl, g1, g2, g3, g4, g5⟩ := hm
  go_enter Tryz.func67, Tryz.ntmps67
  go_wp2_with fail
  go_loopw [5] (fun i wr => ∃ k : Nat, k ≤ l.length ∧ k ≤ m.length ∧ i = .int .i64 k ∧ Hid (∀ j, j < k → l[j]? = m[j]?) ∧ Drew w wr) (fun i _ => l.length - (intOf i).toNat)
  case atStart => exact ⟨0, Nat.zero_le _, Nat.zero_le _, rfl, Lib.hid (by simp), Drew.refl _⟩
  case round =>
    obtain ⟨k, hk, hk', rfl, hno, hdr⟩ := hrel
    obtain ⟨n, rfl⟩ := hdr
    by_cases hlt : k < l.length
    · by_cases hlt' : k < m.length
      · obtain ⟨b, off, rfl, hS, hb, hc, -⟩ := h5.int hlt
        obtain ⟨b', off', rfl, hS', hb', hc', -⟩ := g5.int hlt'
        have hxl := bl _ (List.getElem_mem hlt)
        have hxm := bm _ (List.getElem_mem hlt')
        have hkl : (k : Int) < (l.length : Int) := by omega
        have hkm : (k : Int) < (m.length : Int) := by omega
        have hk0 : (0 : Int) ≤ (k : Int) := by omega
        clear h5 g5
        by_cases he : l[k] = m[k]
        · have heb : (l[k] != m[k]) = false := by simp [he]
          have hee := Lib.hid he
          clear he
          go_wp2_with fail
          go_quiet (fail)
          go_wp2_with fail
          go_roundw
          case rel =>
            refine ⟨k + 1, hlt, hlt', by go_num, Lib.hid (all_succ hno.out hlt hlt' hee.out), (by repeat (first | exact Drew.of _ _ | refine Drew.drewN ?_ _))⟩
          case measure => simp [intOf]; omega
        · have heb : (l[k] != m[k]) = true := by simpa using he
          have hw : IntKind.i64.wrap (l[k] - m[k]) = l[k] - m[k] := IntWalk.i64_in _ (by omega)
          have hres := Lib.hid (show Sgn (l[k] - m[k]) (lexZ l m) by rw [lexZ_ne hno.out hlt hlt' he]; exact sgn_cmpZ _ _)
          clear he
          go_wp2_with fail
          go_quiet (fail)
          go_wp2_with fail
          go_quiet (fail)
          go_wp2_with fail
          refine bodyPost_ret (v := .int .i64 (l[k] - m[k])) (by simp [results, Tryz.results67, go_sem]) rfl ⟨_, rfl, by (repeat (first | exact below_drewN (Below.refl _ _) _ | exact Below.refl _ _ | refine below_drewN ?_ _)), _, rfl, hres.out⟩
      · have hkl : (k : Int) < (l.length : Int) := by omega
        have hkm : ¬ ((k : Int) < (m.length : Int)) := by omega
        have hres := Lib.hid (lexZ_end hno.out hk hk' (.inr (by omega)))
        clear h5 g5
        go_wp2_with fail
        refine bodyPost_ret (v := .int .i64 ((l.length : Int) - m.length)) (by simp [results, Tryz.results67, go_sem]) rfl ⟨_, rfl, below_drewN (Below.refl _ _) _, _, rfl, hres.out⟩
    · have hkl : ¬ ((k : Int) < (l.length : Int)) := by omega
      have hres := Lib.hid (lexZ_end hno.out hk hk' (.inl (by omega)))
      clear h5 g5
      go_wp2_with fail
      refine bodyPost_ret (v := .int .i64 ((l.length : Int) - m.length)) (by simp [results, Tryz.results67, go_sem]) rfl ⟨_, rfl, below_drewN (Below.refl _ _) _, _, rfl, hres.out⟩

/-! ### Rules -/
def RulV (S : Nat → Prop) (w : World) (v : Value) (r : Rule) : Prop := ∃ p n, v = .agg #[.int .i64 r.head, p, n] ∧ IntOK r.head ∧ Seq intE S w p r.pos ∧ Seq intE S w n r.neg
theorem RulV.mono {S T : Nat → Prop} {w w' : World} {v : Value} {r : Rule} (h : RulV S w v r) (hT : ∀ b, S b → b < w.heap.size → T b) (hw : ∀ b, S b → b < w.heap.size → w'.heap[b]? = w.heap[b]?) : RulV T w' v r := by
  obtain ⟨p, n, rfl, h0, h1, h2⟩ := h
  exact ⟨p, n, rfl, h0, h1.mono hT hw, h2.mono hT hw⟩
theorem RulV.at {S : Nat → Prop} {w w' : World} {v : Value} {r : Rule} (h : RulV S w v r) (hb : Below w.heap.size w w') : RulV S w' v r := h.mono (fun _ h _ => h) fun b _ hlt => hb.block b hlt
structure SmU (r : Rule) : Prop where
  head : -1 ≤ r.head ∧ r.head ≤ 1000000000
  pos : SmI r.pos
  neg : SmI r.neg
theorem sgn_ne {r s : Int} (h : Sgn r s) (h0 : r ≠ 0) {t : Int} : Sgn r (if s ≠ 0 then s else t) := by
  have : s ≠ 0 := fun e => h0 (h.2.2 e)
  rw [if_pos this]; exact h
theorem sgn_eq {r s : Int} (h : Sgn r s) (h0 : r = 0) {t : Int} : (if s ≠ 0 then s else t) = t := by
  have : s = 0 := h.2.1 h0
  rw [if_neg (by simp [this])]
set_option maxHeartbeats 1600000 in
theorem OrderR_spec {S T : Nat → Prop} {w : World} {v u : Value} {a b : Rule} (ha : RulV S w v a) (hb : RulV T w u b) (sa : SmU a) (sb : SmU b) :
    Calls Tryz.prog 33 #[v, u] w (Ret (fun o _ => ∃ r : Int, o = .int .i64 r ∧ Sgn r (cmpU a b)) w) := by
  obtain ⟨p, n, rfl, -, hp, hn⟩ := ha
  obtain ⟨p', n', rfl, -, hp', hn'⟩ := hb
  have Hp := Lib.hid hp
  have Hn := Lib.hid hn
  have Hp' := Lib.hid hp'
  have Hn' := Lib.hid hn'
  obtain ⟨pa, pc, rfl, -⟩ := hp
  obtain ⟨na, nc, rfl, -⟩ := hn
  obtain ⟨pa', pc', rfl, -⟩ := hp'
  obtain ⟨na', nc', rfl, -⟩ := hn'
  have hh1 := sa.head
  have hh2 := sb.head
  by_cases he : a.head = b.head
  · have heb : (a.head != b.head) = false := by simp [he]
    have hcu := Lib.hid (show cmpU a b = if lexZ a.pos b.pos ≠ 0 then lexZ a.pos b.pos else lexZ a.neg b.neg by unfold cmpU; rw [if_neg (by simp [cmpZ_zero.2 he])])
    clear he
    go_enter Tryz.func33, Tryz.ntmps33
    go_wp2_with fail
    refine (RowR_spec16 (Hp.out.at Seq.way) (Hp'.out.at Seq.way) sa.pos sb.pos).mono ?_
    rintro e w1 ⟨_, rfl, hb1, r1, rfl, hs1⟩
    have HS1 := Lib.hid hs1
    have hb1' := below_step hb1 (Seq.way : Below w.heap.size w _)
    have k0 := (hb1.cell (p := ⟨w.heap.size, 2, none⟩) (by simp <;> omega)).trans ((Row.alloc (Row.new w [.int .i64 a.head, .slice pa a.pos.length pc, .slice na a.neg.length nc] 46 rfl) _).cell (j := 2) (by simp))
    have k1 := (hb1.cell (p := ⟨w.heap.size + 1, 2, none⟩) (by simp <;> omega)).trans ((Row.new (w.alloc _) [.int .i64 b.head, .slice pa' b.pos.length pc', .slice na' b.neg.length nc'] 46 (by simp)).cell (j := 2) (by simp))
    simp only [List.getElem_cons_zero, List.getElem_cons_succ] at k0 k1
    have l0 : w.heap.size < w1.heap.size := by have := hb1.size; simp at this; omega
    have l1 : w.heap.size + 1 < w1.heap.size := by have := hb1.size; simp at this; omega
    clear hs1 hb1
    by_cases hr : r1 = 0
    · have hrb : (r1 != 0) = false := by simp [hr]
      have hcu2 := Lib.hid (show cmpU a b = lexZ a.neg b.neg by rw [hcu.out, sgn_eq HS1.out hr])
      clear hr
      go_wp2_with fail
      refine (RowR_spec16 (Hn.out.at hb1') (Hn'.out.at hb1') sa.neg sb.neg).mono ?_
      rintro e w2 ⟨_, rfl, hb2, r2, rfl, hs2⟩
      go_wp2_with fail
      go_ret
      exact ⟨_, rfl, hb1'.trans (hb2.mono hb1'.size), _, rfl, by rw [hcu2.out]; exact hs2⟩
    · have hrb : (r1 != 0) = true := by simpa using hr
      have hres := Lib.hid (show Sgn r1 (cmpU a b) by rw [hcu.out]; exact sgn_ne HS1.out hr)
      clear hr
      go_wp2_with fail
      go_ret
      exact ⟨_, rfl, hb1', _, rfl, hres.out⟩
  · have heb : (a.head != b.head) = true := by simpa using he
    have hw : IntKind.i64.wrap (a.head - b.head) = a.head - b.head := IntWalk.i64_in _ (by omega)
    have hres := Lib.hid (show Sgn (a.head - b.head) (cmpU a b) by
      unfold cmpU
      rw [if_pos (fun e => he (cmpZ_zero.1 e))]
      exact sgn_cmpZ _ _)
    clear he
    go_enter Tryz.func33, Tryz.ntmps33
    go_wp2_with fail
    refine bodyPost_ret (v := .int .i64 (a.head - b.head)) (by simp [results, Tryz.results33, go_sem]) rfl ⟨_, rfl, Seq.way, _, rfl, hres.out⟩
end Go.Proofs.YtaedgpcmkagpeaaGreat
