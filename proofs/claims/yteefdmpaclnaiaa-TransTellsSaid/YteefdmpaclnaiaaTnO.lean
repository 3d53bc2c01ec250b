/-
  Layer 13, the laws' small functions: one, Made, Great, great, last.
-/
import Derived.Test.YteefdmpaclnaiaaTnM
namespace Go.Proofs.Yteefdmpaclnaiaa
open Go Go.RowKit

def oneT (n : Int) : List Cell := [⟨3, ⟨#[112]⟩, 1⟩, ⟨2, ⟨#[]⟩, n⟩]
theorem seq2C {S : Nat → Prop} {w : World} {B : Nat} {a b : Cell} (hS : S B) (h : Row 57 w B [.int .i64 a.kind, .string a.name, .int .i64 a.n, .int .i64 b.kind, .string b.name, .int .i64 b.n])
    (ha : IntOK a.kind ∧ IntOK a.n ∧ a.name.size ≤ 140737488355328) (hb : IntOK b.kind ∧ IntOK b.n ∧ b.name.size ≤ 140737488355328) : Seq cellE S w (.slice (some ⟨B, 0, none⟩) 2 2) [a, b] := by
  refine h.seq rfl (by simp) (by simp [maxLen]) (by simp) hS fun k x hx => ?_
  have hk := (List.getElem?_eq_some_iff.1 hx).1
  simp at hk
  rcases (show k = 0 ∨ k = 1 by omega) with rfl | rfl
  · simp at hx; subst hx
    refine ⟨_, ⟨rfl, ha⟩, fun j hj => ?_⟩
    have hj' : j < 3 := hj
    rcases (show j = 0 ∨ j = 1 ∨ j = 2 by omega) with rfl | rfl | rfl <;> rfl
  · simp at hx; subst hx
    refine ⟨_, ⟨rfl, hb⟩, fun j hj => ?_⟩
    have hj' : j < 3 := hj
    rcases (show j = 0 ∨ j = 1 ∨ j = 2 by omega) with rfl | rfl | rfl <;> rfl
theorem seq1C {S : Nat → Prop} {w : World} {B : Nat} {a : Cell} (hS : S B) (h : Row 57 w B [.int .i64 a.kind, .string a.name, .int .i64 a.n])
    (ha : IntOK a.kind ∧ IntOK a.n ∧ a.name.size ≤ 140737488355328) : Seq cellE S w (.slice (some ⟨B, 0, none⟩) 1 1) [a] := by
  refine h.seq rfl (by simp) (by simp [maxLen]) (by simp) hS fun k x hx => ?_
  obtain rfl : k = 0 := by have := (List.getElem?_eq_some_iff.1 hx).1; simp at this; omega
  simp at hx; subst hx
  refine ⟨_, ⟨rfl, ha⟩, fun j hj => ?_⟩
  have hj' : j < 3 := hj
  rcases (show j = 0 ∨ j = 1 ∨ j = 2 by omega) with rfl | rfl | rfl <;> rfl
theorem seq1T {S : Nat → Prop} {w : World} {B : Nat} {v : Value} {t : List Cell} (hS : S B) (h : Row 30 w B [v]) (ht : Seq cellE S w v t) : Seq (seqE cellE) S w (.slice (some ⟨B, 0, none⟩) 1 1) [t] := by
  refine h.seq rfl (by simp) (by simp [maxLen]) (by simp) hS fun k x hx => ?_
  obtain rfl : k = 0 := by have := (List.getElem?_eq_some_iff.1 hx).1; simp at this; omega
  simp at hx; subst hx
  exact ⟨_, ⟨v, rfl, ht⟩, fun j hj => by obtain rfl : j = 0 := (by have : j < 1 := hj; omega); rfl⟩

theorem one_spec {w : World} {n : Int} (hn : IntOK n) : Calls Try.prog 33 #[.int .i64 n] w (Ret (fun o w' => Seq cellE (fun b => w.heap.size ≤ b) w' o (oneT n)) w) := by
  go_enter Try.func33, Try.ntmps33
  go_wp2_with fail
  go_ret
  exact ⟨_, rfl, Seq.way, seq2C (Nat.le_refl _) (Row.new _ [_, _, _, _, _, _] _ rfl) ⟨⟨by decide, by decide⟩, ⟨by decide, by decide⟩, by decide⟩ ⟨show IntOK 2 from ⟨by decide, by decide⟩, hn, show (⟨#[]⟩ : ByteArray).size ≤ _ by decide⟩⟩

def madeB (l : List (List Cell)) : Bas := ⟨rowF l 40, 0, false, []⟩
set_option maxHeartbeats 1600000 in
theorem MadeB_spec {S : Nat → Prop} {w : World} {v : Value} {l : List (List Cell)} (hl : Seq (seqE cellE) S w v l) :
    Calls Try.prog 14 #[v] w (Ret (fun o w' => BasV (fun b => w.heap.size ≤ b) w' o (madeB l)) w) := by
  have Hl := Lib.hid hl
  obtain ⟨la, lc, rfl, -⟩ := hl
  go_enter Try.func14, Try.ntmps14
  go_wp2_with fail
  refine (RowR_spec (most := 40) (Hl.out.at Seq.way) (by omega)).mono ?_
  rintro e w1 ⟨v1, rfl, hb1, hs1⟩
  have hz1 := hb1.size
  simp at hz1
  have hbw1 := below_step hb1 (Seq.way : Below w.heap.size w _)
  have Hs1 := Lib.hid hs1
  obtain ⟨ra, rc, rfl⟩ := hs1.shape
  obtain ⟨c0, c1, c2, c3, d0, d1, d2, d3⟩ := ((Row.new w [_, _, _, _] _ rfl : Row 25 _ w.heap.size _).below hb1 (by simp)).four
  clear hs1
  go_wp2_with fail
  refine bodyPost_ret (v := .agg #[.slice ra (rowF l 40).length rc, .int .i64 0, .bool false, .slice none 0 0]) (by simp [results, Try.results14, go_sem, c0, c1, c2, c3]) rfl ?_
  have hbf := below_set4 (p := .slice ra (rowF l 40).length rc) (q := .int .i64 0) (r := .bool false) (s := .slice none 0 0) hbw1 (Nat.le_refl _)
  refine ⟨_, rfl, hbf, ra, rc, none, 0, rfl, ⟨by show _ ≤ (0 : Int); omega, by show (0 : Int) ≤ _; omega⟩, Hs1.out.mono (fun b h _ => ?_) (fun b h _ => ?_), Seq.nil _ _ _⟩
  · simp at h; omega
  · simp at h
    exact heap_set4 (by omega)

def SomeB (P : Bool → Prop) (w : World) (e : Ending) (w' : World) : Prop := ∃ bo, e = .returned (.bool bo) ∧ Below w.heap.size w w' ∧ P bo
set_option maxHeartbeats 1600000 in
set_option maxRecDepth 100000 in
theorem greatL_spec {S T : Nat → Prop} {w : World} {v u : Value} {l : List (List Cell)} {c : List Chg} (hl : Seq (seqE cellE) S w v l) (hc : Seq changeE T w u c) :
    Calls Try.prog 29 #[v, u] w (SomeB (fun bo => bo = false → l.length ≤ 60 ∧ c.length ≤ 60) w) := by
  obtain ⟨aa, ac, rfl, -, -, hal, -, h5⟩ := hl
  obtain ⟨ba, bc, rfl, -, -, hbl, -, k5⟩ := hc
  go_enter Try.func29, Try.ntmps29
  by_cases hl60 : l.length ≤ 60
  · by_cases hc60 : c.length ≤ 60
    · have h1 : ¬ (60 : Int) < l.length := by omega
      have h2 : ¬ (60 : Int) < c.length := by omega
      go_wp2_with fail
      go_loopw [5] (fun i wr => ∃ k : Nat, k ≤ l.length ∧ i = .int .i64 k ∧ Below w.heap.size w wr) (fun i _ => l.length - (intOf i).toNat)
      case atStart => exact ⟨0, Nat.zero_le _, rfl, Seq.way⟩
      case round =>
        obtain ⟨k, hk, rfl, hbr⟩ := hrel
        by_cases hlt : k < l.length
        · obtain ⟨b1, o1, p1, n1, rfl, -, -, c0, hX⟩ := (h5.below hbr fun _ _ h => h).seq hlt
          have hkl : (k : Int) < (l.length : Int) := by omega
          have hk0 : (0 : Int) ≤ (k : Int) := by omega
          obtain ⟨m, hm⟩ : ∃ m, m = l[k].length := ⟨_, rfl⟩
          rw [← hm] at c0
          clear hm hX h5
          by_cases hg : (300 : Int) < m
          · go_wp2_with fail
            go_ret
            exact ⟨_, rfl, hbr, by simp⟩
          · go_wp2_with fail
            go_roundw
            case rel => exact ⟨k + 1, hlt, by go_num, hbr⟩
            case measure => simp [intOf]; omega
        · obtain rfl : k = l.length := by omega
          go_wp2_with fail
          go_loopw [6] (fun i wr => ∃ k : Nat, k ≤ c.length ∧ i = .int .i64 k ∧ Below w.heap.size w wr) (fun i _ => c.length - (intOf i).toNat)
          case atStart => exact ⟨0, Nat.zero_le _, rfl, hbr⟩
          case round =>
            clear hbr
            obtain ⟨k, hk, rfl, hbr⟩ := hrel
            by_cases hlt : k < c.length
            · obtain ⟨b1, o1, p1, n1, rfl, -, -, c0, c1, hX⟩ := (k5.below hbr fun _ _ h => h).chg hlt
              have hkl : (k : Int) < (c.length : Int) := by omega
              have hk0 : (0 : Int) ≤ (k : Int) := by omega
              obtain ⟨m, hm⟩ : ∃ m, m = c[k].t.length := ⟨_, rfl⟩
              rw [← hm] at c1
              clear hm hX k5 c0
              by_cases hg : (300 : Int) < m
              · go_wp2_with fail
                go_ret
                exact ⟨_, rfl, hbr, by simp⟩
              · go_wp2_with fail
                go_roundw
                case rel => exact ⟨k + 1, hlt, by go_num, hbr⟩
                case measure => simp [intOf]; omega
            · obtain rfl : k = c.length := by omega
              go_wp2_with fail
              go_ret
              exact ⟨_, rfl, hbr, fun _ => ⟨hl60, hc60⟩⟩
    · have h1 : ¬ (60 : Int) < l.length := by omega
      have h2 : (60 : Int) < c.length := by omega
      go_wp2_with fail
      go_ret
      exact ⟨_, rfl, Seq.way, by simp⟩
  · have h1 : (60 : Int) < l.length := by omega
    go_wp2_with fail
    go_ret
    exact ⟨_, rfl, Seq.way, by simp⟩

set_option maxHeartbeats 1600000 in
set_option maxRecDepth 100000 in
theorem GreatB_spec {S : Nat → Prop} {w : World} {v : Value} {b : Bas} (hb : BasV S w v b) : Calls Try.prog 11 #[v] w (SomeB (fun _ => True) w) := by
  obtain ⟨fa, fc, ta, tc, rfl, h1, h2, h3⟩ := hb.bnd
  obtain ⟨_, _, ee, -, -, hal, -, h5⟩ := h2
  obtain ⟨_, _, ee', -, -, hbl, -, k5⟩ := h3
  simp only [Value.slice.injEq, true_and] at ee ee'
  obtain ⟨rfl, rfl⟩ := ee
  obtain ⟨rfl, rfl⟩ := ee'
  obtain ⟨f, hf⟩ : ∃ f, f = b.facts := ⟨_, rfl⟩
  obtain ⟨t, ht⟩ : ∃ t, t = b.todo := ⟨_, rfl⟩
  rw [← hf] at h5 hal ⊢
  rw [← ht] at k5 hbl ⊢
  clear hf ht hb h1
  obtain ⟨W, hW⟩ : ∃ W, W = w.alloc (.cells #[.slice fa f.length fc, .int .i64 b.ver, .bool b.on, .slice ta t.length tc] 25) := ⟨_, rfl⟩
  have hbW := Lib.hid (show Below w.heap.size w W by rw [hW]; exact Seq.way)
  have R0 := Lib.hid (show Row 25 W w.heap.size [.slice fa f.length fc, .int .i64 b.ver, .bool b.on, .slice ta t.length tc] by rw [hW]; exact Row.new _ [_, _, _, _] _ rfl)
  have hzW : w.heap.size + 1 ≤ W.heap.size := by rw [hW]; simp
  have HW := Lib.hid hW
  clear hW
  go_enter Try.func11, Try.ntmps11
  by_cases hl60 : (600 : Int) < f.length
  · go_wp2_with fail
    go_ret
    exact ⟨_, rfl, Seq.way, trivial⟩
  · by_cases hc60 : (200 : Int) < t.length
    · go_wp2_with fail
      go_ret
      exact ⟨_, rfl, Seq.way, trivial⟩
    · go_wp2_with fail
      rw [← HW.out]
      go_loopw [3] (fun i wr => ∃ k : Nat, k ≤ f.length ∧ i = .int .i64 k ∧ Below W.heap.size W wr) (fun i _ => f.length - (intOf i).toNat)
      case atStart => exact ⟨0, Nat.zero_le _, rfl, Below.refl _ _⟩
      case round =>
        obtain ⟨k, hk, rfl, hbr⟩ := hrel
        obtain ⟨q0, q1, q2, q3, -, -, -, -⟩ := (R0.out.below hbr (by omega)).four
        have hbw := below_step hbr hbW.out
        by_cases hlt : k < f.length
        · obtain ⟨b1, o1, p1, n1, rfl, -, -, c0, hX⟩ := (h5.below hbw fun _ h _ => h.2).seq hlt
          have hkl : (k : Int) < (f.length : Int) := by omega
          have hk0 : (0 : Int) ≤ (k : Int) := by omega
          obtain ⟨m, hm⟩ : ∃ m, m = f[k].length := ⟨_, rfl⟩
          rw [← hm] at c0
          clear hm hX h5
          by_cases hg : (60 : Int) < m
          · go_wp2_with fail
            go_ret
            exact ⟨_, rfl, hbw, trivial⟩
          · go_wp2_with fail
            go_roundw
            case rel => exact ⟨k + 1, hlt, by go_num, hbr⟩
            case measure => simp [intOf]; omega
        · obtain rfl : k = f.length := by omega
          go_wp2_with fail
          go_loopw [4] (fun i wr => ∃ k : Nat, k ≤ t.length ∧ i = .int .i64 k ∧ Below W.heap.size W wr) (fun i _ => t.length - (intOf i).toNat)
          case atStart => exact ⟨0, Nat.zero_le _, rfl, hbr⟩
          case round =>
            clear hbr hbw q0 q1 q2 q3
            obtain ⟨k, hk, rfl, hbr⟩ := hrel
            obtain ⟨q0, q1, q2, q3, -, -, -, -⟩ := (R0.out.below hbr (by omega)).four
            have hbw := below_step hbr hbW.out
            by_cases hlt : k < t.length
            · obtain ⟨b1, o1, p1, n1, rfl, -, -, c0, c1, hX⟩ := (k5.below hbw fun _ h _ => h.2).chg hlt
              have hkl : (k : Int) < (t.length : Int) := by omega
              have hk0 : (0 : Int) ≤ (k : Int) := by omega
              obtain ⟨m, hm⟩ : ∃ m, m = t[k].t.length := ⟨_, rfl⟩
              rw [← hm] at c1
              clear hm hX k5 c0
              by_cases hg : (60 : Int) < m
              · go_wp2_with fail
                go_ret
                exact ⟨_, rfl, hbw, trivial⟩
              · go_wp2_with fail
                go_roundw
                case rel => exact ⟨k + 1, hlt, by go_num, hbr⟩
                case measure => simp [intOf]; omega
            · obtain rfl : k = t.length := by omega
              go_wp2_with fail
              go_ret
              exact ⟨_, rfl, hbw, trivial⟩

def lastS (t : List Cell) (n : Int) (c : Chg) : Int := if c.t = t then (if c.add = true then 2 else 1) else n
def lastL (l : List Chg) (t : List Cell) : Int := l.foldl (lastS t) 0
theorem lastL_snoc {l : List Chg} {t : List Cell} {k : Nat} (hk : k < l.length) : lastL (l.take (k + 1)) t = lastS t (lastL (l.take k) t) l[k] := by
  unfold lastL
  rw [List.take_succ_eq_append_getElem hk, List.foldl_append]; rfl
set_option maxHeartbeats 1600000 in
set_option maxRecDepth 100000 in
theorem last_spec {S T : Nat → Prop} {w : World} {v u : Value} {l : List Chg} {t : List Cell} (hl : Seq changeE S w v l) (ht : Seq cellE T w u t) :
    Calls Try.prog 32 #[v, u] w (RetV (.int .i64 (lastL l t)) w) := by
  obtain ⟨aa, ac, rfl, -, -, hal, -, h5⟩ := hl
  have Ht := Lib.hid ht
  obtain ⟨ba, bc, rfl, -⟩ := ht
  go_enter Try.func32, Try.ntmps32
  go_wp2_with fail
  go_loopw [5, 6] (fun n i wr => ∃ k : Nat, k ≤ l.length ∧ i = .int .i64 k ∧ n = .int .i64 (lastL (l.take k) t) ∧ Below w.heap.size w wr) (fun _ i _ => l.length - (intOf i).toNat)
  case atStart => exact ⟨0, Nat.zero_le _, rfl, rfl, Seq.way⟩
  case round =>
    obtain ⟨k, hk, rfl, rfl, hbr⟩ := hrel
    have hzr := hbr.size
    by_cases hlt : k < l.length
    · obtain ⟨b1, o1, p1, n1, rfl, -, hlb, c0, c1, hX⟩ := (h5.below hbr fun _ _ h => h).chg hlt
      have hkl : (k : Int) < (l.length : Int) := by omega
      have hk0 : (0 : Int) ≤ (k : Int) := by omega
      have hst := Lib.hid (lastL_snoc (t := t) hlt)
      obtain ⟨n, hn⟩ : ∃ n, n = lastL (l.take k) t := ⟨_, rfl⟩
      rw [← hn] at hst ⊢
      obtain ⟨⟨xa, xt⟩, hx⟩ : ∃ x, x = l[k] := ⟨_, rfl⟩
      rw [← hx] at hst c0 c1 hX
      have HX := Lib.hid hX
      have hst2 := Lib.hid (show lastL (l.take (k + 1)) t = if xt = t then (if xa = true then 2 else 1) else n from hst.out)
      clear hn hx hX h5 hst
      go_wp2_with fail
      refine (SameT_spec HX.out (Ht.out.at hbr)).mono ?_
      rintro e w1 ⟨rfl, hq⟩
      have hb1 := hq.below wr.heap.size
      have hbr1 := Lib.hid (below_step hb1 hbr)
      have c0' := (hb1.cell (p := ⟨b1, o1 + k * 2, none⟩) hlb).trans c0
      clear hq
      by_cases he : xt = t
      · have hd : decide (xt = t) = true := by simp [he]
        rw [hd]
        cases xa
        · have hst3 := Lib.hid (show lastL (l.take (k + 1)) t = 1 by rw [hst2.out, if_pos he]; rfl)
          clear hd he
          go_wp2_with fail
          go_roundw
          case rel => exact ⟨k + 1, hlt, by go_num, by rw [hst3.out], hbr1.out⟩
          case measure => simp [intOf]; omega
        · have hst3 := Lib.hid (show lastL (l.take (k + 1)) t = 2 by rw [hst2.out, if_pos he]; rfl)
          clear hd he
          go_wp2_with fail
          go_roundw
          case rel => exact ⟨k + 1, hlt, by go_num, by rw [hst3.out], hbr1.out⟩
          case measure => simp [intOf]; omega
      · have hd : decide (xt = t) = false := by simp [he]
        have hst3 := Lib.hid (show lastL (l.take (k + 1)) t = n by rw [hst2.out, if_neg he])
        rw [hd]
        clear hd he
        go_wp2_with fail
        go_roundw
        case rel => exact ⟨k + 1, hlt, by go_num, by rw [hst3.out], hbr1.out⟩
        case measure => simp [intOf]; omega
    · obtain rfl : k = l.length := by omega
      rw [List.take_length]
      go_wp2_with fail
      go_ret
      exact ⟨rfl, hbr⟩
end Go.Proofs.Yteefdmpaclnaiaa
