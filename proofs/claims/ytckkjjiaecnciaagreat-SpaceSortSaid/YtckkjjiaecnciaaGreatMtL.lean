/-
  R03: End, bound.
-/
import Derived.Test.YtckkjjiaecnciaaGreatMtF
import Derived.Deep.Cut
import Derived.Deep.CutRange
import Derived.Deep.DeepCutAuto
namespace Go.Proofs.YtckkjjiaecnciaaGreat
open Go Go.RowKit

set_option maxHeartbeats 1600000 in
set_option maxRecDepth 100000 in
theorem EndR3_spec {S : Nat → Prop} {w : World} {v : Value} {t : List Cell} {at_ E : Nat} (ht : Seq cellE S w v t) (hat : at_ ≤ t.length) (hlen : t.length ≤ 1000000) (hE : endO t at_ = some E) :
    Calls Tryz.prog 76 #[v, .int .i64 at_] w (PureV (.int .i64 E) w) := by
  obtain ⟨ao, cap, rfl, h1, h2, h3, h4, h5⟩ := ht
  have HE := Lib.hid hE
  clear hE
  go_enter Tryz.func76, Tryz.ntmps76
  go_wp2_with fail
  go_loopw [1, 5] (fun i o wr => ∃ k n : Nat, k ≤ t.length ∧ i = .int .i64 k ∧ o = .int .i64 n ∧ n ≤ 1 + 6 * k ∧ Hid ((endC n (t.drop k)).map (k + ·) = some E) ∧ w = wr) (fun i _ _ => t.length + 1 - (intOf i).toNat)
  case atStart => exact ⟨at_, 1, hat, rfl, rfl, by omega, Lib.hid HE.out, rfl⟩
  case round =>
    obtain ⟨k, n, hk, rfl, rfl, hn2, hinv, rfl⟩ := hrel
    by_cases hn0 : n = 0
    · subst hn0
      have he : E = k := by
        have := hinv.out
        rw [endC_zero] at this
        simpa using this.symm
      subst he
      go_wp2_with fail
      go_ret
      exact ⟨rfl, rfl⟩
    · have hlt := endC_lt (by omega) hinv.out
      obtain ⟨hok, hst⟩ := endC_stepZ hlt (by omega) hinv.out
      have Hst := Lib.hid hst
      have hna := arity_le hok
      have hfn := Lib.hid (fun h => cellOK_fun hok h)
      have hard := Lib.hid (show arity t[k] = if t[k].kind = 3 then t[k].n.toNat else 0 from rfl)
      clear hst hok hinv
      obtain ⟨b, off, rfl, -, hb, c0, c1, c2, ok0, ok1, ok2⟩ := h5.cell hlt
      obtain ⟨c, hc⟩ : ∃ c, c = t[k] := ⟨_, rfl⟩
      rw [← hc] at c0 c1 c2 ok0 ok1 ok2 Hst hna hfn hard
      clear hc c1
      have hkl : (k : Int) < (t.length : Int) := by omega
      have hk0 : (0 : Int) ≤ (k : Int) := by omega
      have hnp : (0 : Int) < (n : Int) := by omega
      obtain ⟨m, rfl⟩ : ∃ m, n = m + 1 := ⟨n - 1, by omega⟩
      rw [Nat.add_sub_cancel] at Hst
      by_cases h3 : c.kind = 3
      · have hcn := hfn.out h3
        obtain ⟨a, ha⟩ : ∃ a : Nat, c.n = (a : Int) := ⟨c.n.toNat, by omega⟩
        have har : arity c = a := by rw [hard.out, if_pos h3]; omega
        rw [har] at Hst hna
        rw [ha] at c2
        rw [h3] at c0
        clear h3 hcn har ha hard hfn
        have hov : (m : Int) + (a : Int) ≤ 9000000000000000000 := by omega
        go_wp2_with fail
        go_roundw
        case rel => exact ⟨k + 1, m + a, hlt, by go_num, by go_num, by omega, Hst, trivial⟩
        case measure => simp [intOf]; omega
      · have har : arity c = 0 := by rw [hard.out, if_neg h3]
        rw [har, Nat.add_zero] at Hst
        have h3' : (c.kind == 3) = false := by simpa using h3
        clear hard hfn
        go_wp2_with fail
        go_roundw
        case rel => exact ⟨k + 1, m, hlt, by go_num, by go_num, by omega, Hst, trivial⟩
        case measure => simp [intOf]; omega

/-- What is bound, as a slice; or nil. -/
def BoundP (S : Nat → Prop) (o : Option (List Cell)) (w : World) (e : Ending) (w' : World) : Prop :=
  w = w' ∧ ∃ u, e = .returned u ∧ match o with
    | none => u = .slice none 0 0
    | some y => Seq cellE S w u y
theorem bindS_at {s : List Bnd} {v : Int} {k : Nat} (hk : k < s.length) (he : s[k].var = v) (hno : ∀ i (h : i < s.length), i < k → s[i].var ≠ v) : bindS s v = some s[k].t := (placeS_at hk he hno).2
theorem bindS_none {s : List Bnd} {v : Int} (hno : ∀ i (h : i < s.length), s[i].var ≠ v) : bindS s v = none := (placeS_none hno).2
set_option maxHeartbeats 1600000 in
set_option maxRecDepth 100000 in
theorem BoundR3_spec {S : Nat → Prop} {w : World} {v : Value} {s : List Bnd} {n : Int} (hs : Seq bindE S w v s) :
    Calls Tryz.prog 77 #[v, .int .i64 n] w (BoundP S (bindS s n) w) := by
  obtain ⟨sa, sc, rfl, -, -, hsl, -, s5⟩ := hs
  go_enter Tryz.func77, Tryz.ntmps77
  go_wp2_with fail
  go_loopw [5] (fun i wr => ∃ k : Nat, k ≤ s.length ∧ i = .int .i64 k ∧ Hid (∀ i (h : i < s.length), i < k → s[i].var ≠ n) ∧ w = wr) (fun i _ => s.length - (intOf i).toNat)
  case atStart => exact ⟨0, Nat.zero_le _, rfl, Lib.hid (fun i _ h => absurd h (Nat.not_lt_zero _)), rfl⟩
  case round =>
    obtain ⟨k, hk, rfl, hno, rfl⟩ := hrel
    by_cases hlt : k < s.length
    · have hy := Lib.hid (fun h => bindS_at hlt h hno.out)
      have hz := Lib.hid (show s[k].var ≠ n → ∀ i (h : i < s.length), i < k + 1 → s[i].var ≠ n from fun h i hi hlt => by
        by_cases e : i = k
        · subst e; exact h
        · exact hno.out i hi (by omega))
      obtain ⟨b, off, ta, tc, rfl, -, hb, c0, c1, ok0, hX⟩ := s5.bnd2 hlt
      have HX := Lib.hid hX
      obtain ⟨⟨xa, xt⟩, hc⟩ : ∃ c, c = s[k] := ⟨_, rfl⟩
      rw [← hc] at c0 c1 ok0 hy hz HX
      dsimp only at c0 c1 ok0 hy hz HX
      clear hc s5 hX
      have hkl : (k : Int) < (s.length : Int) := by omega
      have hk0 : (0 : Int) ≤ (k : Int) := by omega
      by_cases he : xa = n
      · have hy' := Lib.hid (hy.out he)
        subst he
        clear hy hz
        go_wp2_with fail
        go_ret
        exact ⟨rfl, _, rfl, by rw [hy'.out]; exact HX.out⟩
      · have hz' := Lib.hid (hz.out he)
        have he' : (xa == n) = false := by simp [he]
        clear hy hz he
        go_wp2_with fail
        go_roundw
        case rel => exact ⟨k + 1, hlt, by go_num, hz', trivial⟩
        case measure => simp [intOf]; omega
    · obtain rfl : k = s.length := by omega
      have hd := Lib.hid (bindS_none (s := s) (v := n) fun i hi => hno.out i hi hi)
      go_wp2_with fail
      go_ret
      exact ⟨rfl, _, rfl, by rw [hd.out]; rfl⟩
end Go.Proofs.YtckkjjiaecnciaaGreat
