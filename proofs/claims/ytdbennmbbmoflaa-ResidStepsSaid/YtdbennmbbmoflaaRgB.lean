/-
  Layers 01 and 16's reference: Compare at the laws' atoms; set, Row, Order.
-/
import Derived.Test.YtdbennmbbmoflaaRgA
namespace Go.Proofs.Ytdbennmbbmoflaa
open Go Go.RowKit

set_option maxHeartbeats 1600000 in
theorem Compare_a {S T : Nat → Prop} {w : World} {v u : Value} {i j : Nat} (hv : Seq cellE S w v (atomA i)) (hu : Seq cellE T w u (atomA j)) (hij : i < j) : Calls Try.prog 50 #[v, u] w (RetV (.int .i64 (-1)) w) := by
  obtain ⟨b, off, c, rfl, hb, h0, h1, h2, h3, h4, h5⟩ := atom_cells hv
  obtain ⟨b', off', c', rfl, hb', g0, g1, g2, g3, g4, g5⟩ := atom_cells hu
  have hne : ((i : Int) == (j : Int)) = false := beq_eq_false_iff_ne.2 (by omega)
  have hlt : (i : Int) < (j : Int) := by omega
  clear hv hu
  go_enter Try.func50, Try.ntmps50
  go_wp2_with fail
  go_loopw [5] (fun j wr => ∃ k : Nat, k ≤ 1 ∧ j = .int .i64 k ∧ Below w.heap.size w wr) (fun j _ => 2 - (intOf j).toNat)
  case atStart => exact ⟨0, by omega, rfl, Below.refl _ _⟩
  case round =>
    obtain ⟨k, hk, rfl, hbel⟩ := hrel
    have e0 := (hbel.cell (p := ⟨b, off, none⟩) hb).trans h0
    have e1 := (hbel.cell (p := ⟨b, off + 1, none⟩) hb).trans h1
    have e2 := (hbel.cell (p := ⟨b, off + 2, none⟩) hb).trans h2
    have e3 := (hbel.cell (p := ⟨b, off + 3, none⟩) hb).trans h3
    have e4 := (hbel.cell (p := ⟨b, off + 3 + 1, none⟩) hb).trans h4
    have e5 := (hbel.cell (p := ⟨b, off + 3 + 2, none⟩) hb).trans h5
    have f0 := (hbel.cell (p := ⟨b', off', none⟩) hb').trans g0
    have f1 := (hbel.cell (p := ⟨b', off' + 1, none⟩) hb').trans g1
    have f2 := (hbel.cell (p := ⟨b', off' + 2, none⟩) hb').trans g2
    have f3 := (hbel.cell (p := ⟨b', off' + 3, none⟩) hb').trans g3
    have f4 := (hbel.cell (p := ⟨b', off' + 3 + 1, none⟩) hb').trans g4
    have f5 := (hbel.cell (p := ⟨b', off' + 3 + 2, none⟩) hb').trans g5
    have hwz := hbel.size
    have hbr : b < wr.heap.size := Nat.lt_of_lt_of_le hb hbel.size
    have hbr' : b' < wr.heap.size := Nat.lt_of_lt_of_le hb' hbel.size
    clear h0 h1 h2 h3 h4 h5 g0 g1 g2 g3 g4 g5
    rcases (show k = 0 ∨ k = 1 by omega) with rfl | rfl
    · go_wp2_with fail
      go_roundw
      case rel => exact ⟨1, by omega, rfl, Seq.way⟩
      case measure => simp [intOf]
    · go_wp2_with fail
      go_ret
      exact ⟨rfl, Seq.way⟩

/-! ### set: numbers of 0 to below n, rising -/
def RiseL (n : Nat) (l : List Int) : Prop := (∀ x ∈ l, 0 ≤ x ∧ x < n) ∧ l.Pairwise (· < ·)

set_option maxHeartbeats 1600000 in
theorem set_ok {S : Nat → Prop} {w : World} {v : Value} {l : List Int} {n : Nat} (hl : Seq intE S w v l) (hr : RiseL n l) : Calls Try.prog 51 #[v, .int .i64 n] w (RetV (.bool true) w) := by
  obtain ⟨ao, cap, rfl, h1, h2, h3, h4, h5⟩ := hl
  go_enter Try.func51, Try.ntmps51
  go_wp2_with fail
  go_loopw [5] (fun i wr => ∃ k : Nat, k ≤ l.length ∧ i = .int .i64 k ∧ Drew w wr) (fun i _ => l.length - (intOf i).toNat)
  case atStart => exact ⟨0, Nat.zero_le _, rfl, Drew.refl _⟩
  case round =>
    obtain ⟨k, hk, rfl, hdr⟩ := hrel
    obtain ⟨m, rfl⟩ := hdr
    by_cases hlt : k < l.length
    · obtain ⟨b, off, rfl, hS, hb, hc, -⟩ := h5.int hlt
      have hx := hr.1 _ (List.getElem_mem hlt)
      have hx1 : decide (l[k] < 0) = false := by simp; omega
      have hx2 : decide ((n : Int) ≤ l[k]) = false := by simp; omega
      by_cases hk0 : k = 0
      · subst hk0
        have hl0 : (0 : Int) < (l.length : Int) := by omega
        have hc' : w.cell? ⟨b, off, none⟩ = some (.int .i64 l[0]) := by simpa using hc
        clear h5 hc
        go_wp2_with fail
        go_quiet (fail)
        go_wp2_with fail
        go_roundw
        case rel => exact ⟨1, hlt, by go_num, (by repeat (first | exact Drew.of _ _ | refine Drew.drewN ?_ _))⟩
        case measure => simp [intOf]; omega
      · obtain ⟨k', rfl⟩ : ∃ k', k = k' + 1 := ⟨k - 1, by omega⟩
        obtain ⟨b2, off2, e2, -, -, hc2, -⟩ := h5.int (k := k') (by omega)
        simp only [Option.some.injEq, Addr.mk.injEq, and_true] at e2
        obtain ⟨rfl, rfl⟩ := e2
        have hlt2 : l[k'] < l[k' + 1] := List.pairwise_iff_getElem.1 hr.2 _ _ (by omega) hlt (by omega)
        have hx3 : decide (l[k' + 1] ≤ l[k']) = false := by simp; omega
        have hkp : decide ((0 : Int) < ((k' + 1 : Nat) : Int)) = true := by simp
        have hki1 : (k' : Int) < (l.length : Int) := by omega
        have hk00 : (0 : Int) ≤ (k' : Int) := by omega
        have hki : ((k' + 1 : Nat) : Int) < (l.length : Int) := by omega
        clear h5
        go_wp2_with fail
        go_quiet (fail)
        go_wp2_with fail
        go_roundw
        case rel => exact ⟨k' + 2, hlt, by go_num, (by repeat (first | exact Drew.of _ _ | refine Drew.drewN ?_ _))⟩
        case measure => simp [intOf]; omega
    · obtain rfl : k = l.length := by omega
      clear h5
      go_wp2_with fail
      go_ret
      exact ⟨rfl, below_drewN (Below.refl _ _) m⟩
/-! ### Row, Order -/
/-- The sign that a row's order has. -/
def SignR (l m : List Int) (r : Int) : Prop := (lessL l m < 0 → r < 0) ∧ (r = 0 ↔ l = m)
set_option maxHeartbeats 1600000 in
theorem Row_spec {S T : Nat → Prop} {w : World} {v u : Value} {l m : List Int} (hl : Seq intE S w v l) (hm : Seq intE T w u m) (bl : ∀ x ∈ l, 0 ≤ x ∧ x < 1000) (bm : ∀ x ∈ m, 0 ≤ x ∧ x < 1000) :
    Calls Try.prog 72 #[v, u] w (Ret (fun o _ => ∃ r : Int, o = .int .i64 r ∧ SignR l m r) w) := by
  obtain ⟨ao, cap, rfl, h1, h2, h3, h4, h5⟩ := hl
  obtain ⟨bo, cap', rfl, g1, g2, g3, g4, g5⟩ := hm
  go_enter Try.func72, Try.ntmps72
  go_wp2_with fail
  go_loopw [5] (fun i wr => ∃ k : Nat, k ≤ l.length ∧ k ≤ m.length ∧ i = .int .i64 k ∧ Hid (∀ j, j < k → l[j]? = m[j]?) ∧ Drew w wr) (fun i _ => l.length - (intOf i).toNat)
  case atStart => exact ⟨0, Nat.zero_le _, Nat.zero_le _, rfl, Lib.hid (by simp), Drew.refl _⟩
  case round =>
    obtain ⟨k, hk, hk', rfl, hno, hdr⟩ := hrel
    obtain ⟨n, rfl⟩ := hdr
    have hend : ∀ {r : Int}, ¬ (k < l.length ∧ k < m.length) → r = (l.length : Int) - m.length → SignR l m r := by
      intro r hne hr
      have hke : k = l.length ∨ k = m.length := by omega
      have he := lessL_end hno.out hk hk' hke
      subst hr
      refine ⟨fun h => ?_, fun h => ?_, fun h => ?_⟩
      · by_cases hc : (l.length : Int) - m.length < 0
        · exact hc
        · exfalso
          rw [he] at h
          split at h <;> (try split at h) <;> omega
      · have hll : l.length = m.length := by omega
        refine List.ext_getElem? fun j => ?_
        rcases Nat.lt_or_ge j k with h' | h'
        · exact hno.out j h'
        · rw [List.getElem?_eq_none (by omega), List.getElem?_eq_none (by omega)]
      · subst h; omega
    have Hend := fun {r : Int} a b => Lib.hid (hend (r := r) a b)
    clear hend
    by_cases hlt : k < l.length
    · by_cases hlt' : k < m.length
      · obtain ⟨b, off, rfl, hS, hb, hc, -⟩ := h5.int hlt
        obtain ⟨b', off', rfl, hS', hb', hc', -⟩ := g5.int hlt'
        have hxl := bl _ (List.getElem_mem hlt)
        have hxm := bm _ (List.getElem_mem hlt')
        have hat := Lib.hid (lessL_at hno.out hlt hlt')
        have hkl : (k : Int) < (l.length : Int) := by omega
        have hkm : (k : Int) < (m.length : Int) := by omega
        have hk0 : (0 : Int) ≤ (k : Int) := by omega
        clear h5 g5
        by_cases he : l[k] = m[k]
        · have heb : (l[k] != m[k]) = false := by simp [he]
          have hee := Lib.hid he
          clear he
          go_wp2_with fail
          go_quiet (fail)
          go_wp2_with fail
          go_roundw
          case rel =>
            refine ⟨k + 1, hlt, hlt', by go_num, ?_, (by repeat (first | exact Drew.of _ _ | refine Drew.drewN ?_ _))⟩
            refine Lib.hid fun j hj => ?_
            rcases Nat.lt_or_ge j k with h | h
            · exact hno.out j h
            · obtain rfl : j = k := by omega
              rw [List.getElem?_eq_getElem hlt, List.getElem?_eq_getElem hlt', hee.out]
          case measure => simp [intOf]; omega
        · have heb : (l[k] != m[k]) = true := by simpa using he
          have hres := Lib.hid (show SignR l m (l[k] - m[k]) from by
            refine ⟨fun h => ?_, fun h => ?_, fun h => ?_⟩
            · rcases Int.lt_trichotomy l[k] m[k] with h' | h' | h'
              · omega
              · exact absurd h' he
              · rw [hat.out.2 h'] at h; omega
            · exact absurd (by omega) he
            · subst h; exact absurd rfl he)
          clear he
          go_wp2_with fail
          go_quiet (fail)
          go_wp2_with fail
          go_quiet (fail)
          go_wp2_with fail
          refine bodyPost_ret (v := .int .i64 (l[k] - m[k])) (by simp [results, Try.results72, go_sem]) rfl ⟨_, rfl, by (repeat (first | exact below_drewN (Below.refl _ _) _ | exact Below.refl _ _ | refine below_drewN ?_ _)), _, rfl, hres.out⟩
      · have hkl : (k : Int) < (l.length : Int) := by omega
        have hkm : ¬ ((k : Int) < (m.length : Int)) := by omega
        have hres := Hend (r := (l.length : Int) - m.length) (fun h => hlt' h.2) rfl
        clear h5 g5 Hend
        go_wp2_with fail
        refine bodyPost_ret (v := .int .i64 ((l.length : Int) - m.length)) (by simp [results, Try.results72, go_sem]) rfl ⟨_, rfl, below_drewN (Below.refl _ _) _, _, rfl, hres.out⟩
    · have hkl : ¬ ((k : Int) < (l.length : Int)) := by omega
      have hres := Hend (r := (l.length : Int) - m.length) (fun h => hlt h.1) rfl
      clear h5 g5 Hend
      go_wp2_with fail
      refine bodyPost_ret (v := .int .i64 ((l.length : Int) - m.length)) (by simp [results, Try.results72, go_sem]) rfl ⟨_, rfl, below_drewN (Below.refl _ _) _, _, rfl, hres.out⟩

structure SmallR (r : Rule) : Prop where
  head : 0 ≤ r.head ∧ r.head < 1000
  pos : ∀ x ∈ r.pos, 0 ≤ x ∧ x < 1000
  neg : ∀ x ∈ r.neg, 0 ≤ x ∧ x < 1000
set_option maxHeartbeats 1600000 in
theorem Order16_spec {S T : Nat → Prop} {w : World} {v u : Value} {a b : Rule} (ha : RuleV S w v a) (hb : RuleV T w u b) (sa : SmallR a) (sb : SmallR b) (hlt : orderR a b < 0) :
    Calls Try.prog 52 #[v, u] w (Ret (fun o _ => ∃ r : Int, o = .int .i64 r ∧ r < 0) w) := by
  obtain ⟨p, n, rfl, -, hp, hn⟩ := ha
  obtain ⟨p', n', rfl, -, hp', hn'⟩ := hb
  have Hp := Lib.hid hp
  have Hn := Lib.hid hn
  have Hp' := Lib.hid hp'
  have Hn' := Lib.hid hn'
  obtain ⟨pa, pc, rfl, -⟩ := hp
  obtain ⟨na, nc, rfl, -⟩ := hn
  obtain ⟨pa', pc', rfl, -⟩ := hp'
  obtain ⟨na', nc', rfl, -⟩ := hn'
  have hh1 := sa.head
  have hh2 := sb.head
  rw [orderR_lt] at hlt
  by_cases he : a.head = b.head
  · have heb : (a.head != b.head) = false := by simp [he]
    have hl2 := Lib.hid (show lessL a.pos b.pos < 0 ∨ (a.pos = b.pos ∧ lessL a.neg b.neg < 0) from by
      rcases hlt with h | h
      · omega
      · exact h.2)
    clear he hlt
    go_enter Try.func52, Try.ntmps52
    go_wp2_with fail
    refine (Row_spec (Hp.out.at Seq.way) (Hp'.out.at Seq.way) sa.pos sb.pos).mono ?_
    rintro e w1 ⟨_, rfl, hb1, r1, rfl, hs1⟩
    have HS1 := Lib.hid hs1
    have hb1' := below_step hb1 (Seq.way : Below w.heap.size w _)
    have k0 := (hb1.cell (p := ⟨w.heap.size, 2, none⟩) (by simp <;> omega)).trans ((Row.alloc (Row.new w [.int .i64 a.head, .slice pa a.pos.length pc, .slice na a.neg.length nc] 46 rfl) _).cell (j := 2) (by simp))
    have k1 := (hb1.cell (p := ⟨w.heap.size + 1, 2, none⟩) (by simp <;> omega)).trans ((Row.new (w.alloc _) [.int .i64 b.head, .slice pa' b.pos.length pc', .slice na' b.neg.length nc'] 46 (by simp)).cell (j := 2) (by simp))
    simp only [List.getElem_cons_zero, List.getElem_cons_succ] at k0 k1
    have l0 : w.heap.size < w1.heap.size := by have := hb1.size; simp at this; omega
    have l1 : w.heap.size + 1 < w1.heap.size := by have := hb1.size; simp at this; omega
    clear hs1 hb1
    by_cases hr : r1 = 0
    · have hrb : (r1 != 0) = false := by simp [hr]
      have hneg := Lib.hid (show lessL a.neg b.neg < 0 from by
        have hpe := HS1.out.2.1 hr
        rcases hl2.out with h | h
        · rw [hpe, lessL_zero.2 rfl] at h; omega
        · exact h.2)
      clear hr
      go_wp2_with fail
      refine (Row_spec (Hn.out.at hb1') (Hn'.out.at hb1') sa.neg sb.neg).mono ?_
      rintro e w2 ⟨_, rfl, hb2, r2, rfl, hs2⟩
      go_wp2_with fail
      go_ret
      exact ⟨_, rfl, hb1'.trans (hb2.mono hb1'.size), _, rfl, hs2.1 hneg.out⟩
    · have hrb : (r1 != 0) = true := by simpa using hr
      have hres := Lib.hid (show r1 < 0 from by
        rcases hl2.out with h | h
        · exact HS1.out.1 h
        · exact absurd (HS1.out.2.2 h.1) hr)
      clear hr
      go_wp2_with fail
      go_ret
      exact ⟨_, rfl, hb1', _, rfl, hres.out⟩
  · have heb : (a.head != b.head) = true := by simpa using he
    have hres := Lib.hid (show a.head - b.head < 0 from by
      rcases hlt with h | h
      · omega
      · exact absurd h.1 he)
    clear he hlt
    go_enter Try.func52, Try.ntmps52
    go_wp2_with fail
    refine bodyPost_ret (v := .int .i64 (a.head - b.head)) (by simp [results, Try.results52, go_sem]) rfl ⟨_, rfl, Seq.way, _, rfl, hres.out⟩
end Go.Proofs.Ytdbennmbbmoflaa
