/-
  Layer 18, plain facts for the law of steps; Size.
-/
import Derived.Test.YtdbennmbbmoflaaRise
import Derived.Test.YtdbennmbbmoflaaRmC
namespace Go.Proofs.Ytdbennmbbmoflaa
open Go Go.RowKit

/-! ### No simplification changes the model -/
theorem doL_model {g : Prog} (hg : GoodP g) {s : Int × Int} (hs : s ∈ canL g) : modelL (doL g s).1 = modelL g := by
  obtain ⟨ht, hm⟩ := step_model hg hs
  unfold modelL stateTo
  rw [doL_atoms]
  refine List.map_congr_left fun a _ => ?_
  have h1 := model_at (doL_good hg hs) (a := a)
  have h2 := model_at hg (a := a)
  rw [ht, hm] at h1
  have key : ∀ h : Prog, stateOf (lowL h) (leastL h (lowL h)) a = 0 ∨ stateOf (lowL h) (leastL h (lowL h)) a = 1 ∨ stateOf (lowL h) (leastL h (lowL h)) a = 2 := by
    intro h; unfold stateOf; split <;> (try split) <;> simp
  have h3 := key g
  have h4 := key (doL g s).1
  by_cases hT : Tru g.rules (a : Int)
  · rw [h1.1.2 hT, h2.1.2 hT]
  · by_cases hM : May g.rules (a : Int)
    · have e1 : stateOf (lowL (doL g s).1) (leastL (doL g s).1 (lowL (doL g s).1)) a ≠ 2 := fun e => hT (h1.1.1 e)
      have e2 : stateOf (lowL (doL g s).1) (leastL (doL g s).1 (lowL (doL g s).1)) a ≠ 0 := fun e => (h1.2.1 e) hM
      have e3 : stateOf (lowL g) (leastL g (lowL g)) a ≠ 2 := fun e => hT (h2.1.1 e)
      have e4 : stateOf (lowL g) (leastL g (lowL g)) a ≠ 0 := fun e => (h2.2.1 e) hM
      omega
    · rw [h1.2.2 hM, h2.2.2 hM]

/-! ### What can be done rises -/
def LtS (a b : Int × Int) : Prop := a.1 < b.1 ∨ (a.1 = b.1 ∧ a.2 < b.2)
theorem zip_rise (l : List Rule) (n : Nat) : (l.zipIdx n).Pairwise fun a b => a.2 < b.2 := by
  induction l generalizing n with
  | nil => simp
  | cons r l ih =>
    rw [List.zipIdx_cons]
    refine List.pairwise_cons.2 ⟨fun p hp => ?_, ih (n + 1)⟩
    have := List.le_snd_of_mem_zipIdx hp
    show n < p.2
    omega
theorem canRow_rise (g : Prog) (f : List Bool) (kind : Int) (l : List Rule) : (canRow g f kind l).Pairwise LtS := by
  unfold canRow
  rw [List.pairwise_map]
  refine ((zip_rise l 0).sublist List.filter_sublist).imp fun h => .inr ⟨rfl, ?_⟩
  show ((_ : Nat) : Int) < ((_ : Nat) : Int)
  exact Int.ofNat_lt.2 h
theorem canRow_kind {g : Prog} {f : List Bool} {kind : Int} {l : List Rule} {s : Int × Int} (h : s ∈ canRow g f kind l) : s.1 = kind := by
  unfold canRow at h
  obtain ⟨p, -, rfl⟩ := List.mem_map.1 h
  rfl
theorem canUpto_rise (g : Prog) (f : List Bool) : ∀ c, (canUpto g f c).Pairwise LtS ∧ ∀ s ∈ canUpto g f c, s.1 ≤ (c : Int)
  | 0 => by simp [canUpto]
  | c + 1 => by
    obtain ⟨h1, h2⟩ := canUpto_rise g f c
    rw [canUpto_succ]
    refine ⟨List.pairwise_append.2 ⟨h1, canRow_rise _ _ _ _, fun a ha b hb => .inl ?_⟩, fun s hs => ?_⟩
    · have := h2 a ha
      have := canRow_kind hb
      omega
    · rcases List.mem_append.1 hs with h | h
      · have := h2 s h; omega
      · have := canRow_kind h; omega
theorem canL_rise (g : Prog) {k : Nat} (h : k + 1 < (canL g).length) : LtS (canL g)[k] (canL g)[k + 1] :=
  List.pairwise_iff_getElem.1 (canUpto_rise g (followsL g) 5).1 k (k + 1) (Nat.lt_of_succ_lt h) h (Nat.lt_succ_self k)

/-! ### Those that can not be done -/
theorem doL_one {g : Prog} {s : Int × Int} : (s ∈ canL g ∧ (doL g s).2 = true) ∨ (¬ s ∈ canL g ∧ doL g s = (g, false)) := by
  by_cases h : s.1 < 1 ∨ 5 < s.1 ∨ s.2 < 0 ∨ (g.rules.length : Int) ≤ s.2
  · refine .inr ⟨fun hs => ?_, doL_no h⟩
    obtain ⟨j, k, hk, hj, rfl, -⟩ := mem_canL.1 hs
    simp only at h
    omega
  · obtain ⟨s1, s2⟩ := s
    simp only at h
    obtain ⟨j, rfl⟩ : ∃ j : Nat, s1 = (j : Int) + 1 := ⟨(s1 - 1).toNat, by omega⟩
    obtain ⟨k, rfl⟩ : ∃ k : Nat, s2 = (k : Int) := ⟨s2.toNat, by omega⟩
    have hj : j < 5 := by omega
    have hk : k < g.rules.length := by omega
    by_cases hg : 0 < (goneL g (followsL g) ((j : Int) + 1) g.rules[k]).length
    · refine .inl ⟨mem_canL.2 ⟨j, k, hk, hj, rfl, hg⟩, ?_⟩
      rw [doL_can hj hk hg]
    · refine .inr ⟨fun hs => ?_, doL_none (by simp only; omega) (r := g.rules[k]) (by simp [hk]) (by simp only; omega)⟩
      obtain ⟨j', k', hk', hj', e, hg'⟩ := mem_canL.1 hs
      simp only [Prod.mk.injEq] at e
      obtain ⟨e1, e2⟩ := e
      obtain rfl : j = j' := by omega
      obtain rfl : k = k' := by omega
      exact hg hg'
theorem doL_is {g : Prog} {s : Int × Int} : (doL g s).2 = decide (s ∈ canL g) := by
  rcases doL_one (g := g) (s := s) with ⟨h, e⟩ | ⟨h, e⟩
  · rw [e]; simp [h]
  · rw [e]; simp [h]
theorem doL_not {g : Prog} {s : Int × Int} (h : ¬ s ∈ canL g) : doL g s = (g, false) := by
  rcases doL_one (g := g) (s := s) with ⟨h', -⟩ | ⟨-, e⟩
  · exact absurd h' h
  · exact e

/-! ### Size -/
def pnL (l : List Rule) : Nat := (l.map fun r => r.pos.length + r.neg.length).sum
theorem sizeL_pn : ∀ l : List Rule, sizeL l = l.length + pnL l
  | [] => rfl
  | r :: l => by have := sizeL_pn l; simp only [sizeL, sizeR, pnL, List.length_cons, List.map_cons, List.sum_cons] at *; omega
theorem pnL_snoc (l : List Rule) (k : Nat) (hk : k < l.length) : pnL (l.take (k + 1)) = pnL (l.take k) + l[k].pos.length + l[k].neg.length := by
  unfold pnL
  rw [List.take_succ_eq_append_getElem hk, List.map_append, List.sum_append]
  simp; omega
theorem pnL_le (l : List Rule) (k : Nat) : pnL (l.take k) ≤ pnL l := by
  unfold pnL
  have h : (l.map fun r => r.pos.length + r.neg.length).sum = ((l.take k).map fun r => r.pos.length + r.neg.length).sum + ((l.drop k).map fun r => r.pos.length + r.neg.length).sum := by
    rw [← List.sum_append, ← List.map_append, List.take_append_drop]
  omega

set_option maxHeartbeats 800000 in
theorem Size_spec {S : Nat → Prop} {w : World} {v : Value} {g : Prog} (hg : ProgV S w v g) (hgood : GoodP g) :
    Calls Try.prog 24 #[v] w (RetV (.int .i64 (sizeP g)) w) := by
  obtain ⟨va, vr, rfl, hga, ⟨ra, rc, rfl, hrc, hrm, hrl, hrn, hr⟩⟩ := hg
  have hsz := sizeP_le hgood
  obtain ⟨rs, hrs⟩ : ∃ rs, rs = g.rules := ⟨_, rfl⟩
  have hf0 : sizeP g = rs.length + pnL rs := by unfold sizeP; rw [hrs]; exact sizeL_pn _
  have hf := Lib.hid hf0
  rw [hf0] at hsz
  rw [← hrs] at hrl hr hrc ⊢
  clear hrs hga hf0
  go_enter Try.func24, Try.ntmps24
  go_wp2
  go_loopw [3, 4] (fun n i wr => ∃ k : Nat, k ≤ rs.length ∧ i = .int .i64 k ∧ n = .int .i64 ((rs.length : Int) + (pnL (rs.take k) : Int)) ∧ Drew (w.alloc (.cells #[va, .slice ra rs.length rc] 30)) wr) (fun _ i _ => rs.length - (intOf i).toNat)
  case atStart => exact ⟨0, Nat.zero_le _, rfl, by simp [pnL], Drew.refl _⟩
  case round =>
    obtain ⟨k, hk, rfl, rfl, hdr⟩ := hrel
    obtain ⟨q, rfl⟩ := hdr
    by_cases hlt : k < rs.length
    · obtain ⟨b, off, pa, pc, na, nc, rfl, hS, hb, h0, h1, h2, -, -, -⟩ := hr.rule hlt
      clear hr
      have hs := Lib.hid (pnL_snoc rs k hlt)
      have hle := pnL_le rs (k + 1)
      rw [hs.out] at hle
      obtain ⟨p, hp⟩ : ∃ p, p = pnL (rs.take k) := ⟨_, rfl⟩
      have Hp := Lib.hid hp
      rw [← hp] at hle ⊢
      clear hp
      have hle1 : (rs.length : Int) + (p : Int) + (rs[k].pos.length : Int) ≤ 3000000000000000000 := by omega
      have hle2 : (rs.length : Int) + (p : Int) + (rs[k].pos.length : Int) + (rs[k].neg.length : Int) ≤ 3000000000000000000 := by omega
      go_wp2_with fail
      go_quiet (fail)
      go_wp2_with fail
      go_roundw
      case rel => exact ⟨k + 1, hlt, by go_num, by rw [hs.out, ← Hp.out]; go_num, (by repeat (first | exact Drew.of _ _ | refine Drew.drewN ?_ _))⟩
      case measure => simp [intOf]; omega
    · obtain rfl : k = rs.length := by omega
      rw [List.take_length]
      go_wp2_with fail
      go_ret
      refine ⟨?_, Seq.way⟩
      rw [hf.out]; go_num
end Go.Proofs.Ytdbennmbbmoflaa
