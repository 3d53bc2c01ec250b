/-
  Layer 2: the walk of SubstSwap.
-/
import Derived.Test.YtgfiaddldmmjiaaLIdem
namespace Go.Proofs.Ytgfiaddldmmjiaa
open Go Go.RowKit

/-- Two variables that are swapped. -/
def swapS (a b : Int) : List Bnd := [⟨a, [vT b]⟩, ⟨b, [vT a]⟩]
section
variable {a b : Int} (h0 : 0 ≤ a) (h1 : a < b) (h2 : b ≤ 999)
include h0 h1 h2
theorem swap_right : RightS (swapS a b) := by
  refine ⟨?_, ?_, ?_, ?_⟩
  · unfold swapS; simp; omega
  · intro x hx; unfold swapS at hx; simp at hx; rcases hx with rfl | rfl
    · exact ⟨h0, by show a ≤ 999; omega⟩
    · exact ⟨by show 0 ≤ b; omega, h2⟩
  · intro x hx; unfold swapS at hx; simp at hx; rcases hx with rfl | rfl
    · exact vT_right ⟨by omega, h2⟩
    · exact vT_right ⟨h0, by omega⟩
  · intro x hx; unfold swapS at hx; simp at hx; rcases hx with rfl | rfl
    · show isV a [vT b] = false
      have hne : ¬ b = a := by omega
      rw [isV_one]; simp [vT, hne]
    · show isV b [vT a] = false
      have hne : ¬ a = b := by omega
      rw [isV_one]; simp [vT, hne]
theorem swap_look (n : Int) : lookS (swapS a b) (vT n) = if n = a then [vT b] else if n = b then [vT a] else [vT n] := by
  have r := swap_right h0 h1 h2
  by_cases e1 : n = a
  · subst e1
    rw [if_pos rfl]
    exact lookS_bound rfl (bindS_in r (x := ⟨n, [vT b]⟩) (by simp [swapS]))
  · rw [if_neg e1]
    by_cases e2 : n = b
    · subst e2
      rw [if_pos rfl]
      exact lookS_bound rfl (bindS_in r (x := ⟨n, [vT a]⟩) (by simp [swapS]))
    · rw [if_neg e2]
      refine lookS_free (.inr (placeS_none fun i hi e => ?_).2)
      have hi' : i < 2 := hi
      rcases (show i = 0 ∨ i = 1 by omega) with rfl | rfl
      · exact e1 (show n = a from e.symm)
      · exact e2 (show n = b from e.symm)
theorem swap_cell {c : Cell} (hc : cellOK c = true) : (lookS (swapS a b) c).length = 1 ∧ putT (swapS a b) (lookS (swapS a b) c) = [c] := by
  by_cases hk : c.kind = 1
  · have e := cell_var hc hk
    obtain ⟨n, hn⟩ : ∃ n, n = c.n := ⟨_, rfl⟩
    rw [← hn] at e
    subst e
    have hl := swap_look h0 h1 h2
    have hp : ∀ n, putT (swapS a b) [vT n] = lookS (swapS a b) (vT n) := fun n => by rw [putT_cons]; show _ ++ [] = _; simp
    rw [hl]
    by_cases e1 : n = a
    · subst e1
      rw [if_pos rfl, hp, hl, if_neg (by omega), if_pos rfl]; exact ⟨rfl, rfl⟩
    · rw [if_neg e1]
      by_cases e2 : n = b
      · subst e2
        rw [if_pos rfl, hp, hl, if_pos rfl]; exact ⟨rfl, rfl⟩
      · rw [if_neg e2, hp, hl, if_neg e1, if_neg e2]; exact ⟨rfl, rfl⟩
  · rw [lookS_free (.inl hk), putT_cons, lookS_free (.inl hk)]; exact ⟨rfl, rfl⟩
theorem swap_put : ∀ {t : List Cell}, (∀ c ∈ t, cellOK c = true) → (putT (swapS a b) t).length = t.length ∧ putT (swapS a b) (putT (swapS a b) t) = t
  | [], _ => ⟨rfl, rfl⟩
  | c :: t, h => by
    obtain ⟨i1, i2⟩ := swap_put (t := t) fun x hx => h x (by simp [hx])
    obtain ⟨j1, j2⟩ := swap_cell h0 h1 h2 (h c (by simp))
    rw [putT_cons, putT_app, List.length_append, i1, i2, j1, j2, List.length_cons]
    exact ⟨by omega, rfl⟩
theorem swap_comp : composeL (swapS a b) (swapS a b) = some [] := by
  have r := swap_right h0 h1 h2
  have hl := swap_look h0 h1 h2
  have hp : ∀ n, putT (swapS a b) [vT n] = lookS (swapS a b) (vT n) := fun n => by rw [putT_cons]; show _ ++ [] = _; simp
  have e1 : appO (swapS a b) [vT b] = some [vT a] := by
    have e : putT (swapS a b) [vT b] = [vT a] := by rw [hp, hl, if_neg (by omega), if_pos rfl]
    rw [appO_yes (by rw [e]; simp), e]
  have e2 : appO (swapS a b) [vT a] = some [vT b] := by
    have e : putT (swapS a b) [vT a] = [vT b] := by rw [hp, hl, if_pos rfl]
    rw [appO_yes (by rw [e]; simp), e]
  have hr : restB (swapS a b) (swapS a b) = [] := by
    unfold restB fltL
    rw [List.filter_eq_nil_iff]
    intro x hx
    rw [bindS_in r hx]; simp
  refine compose_law (L := [⟨a, [vT a]⟩, ⟨b, [vT b]⟩]) r.ne r.ne r.var r.var ?_ ?_ List.Pairwise.nil
  · exact fstM_snoc (a := swapS a b) (fstM_snoc (a := swapS a b) (fstM_nil _ _) (show 0 < (swapS a b).length from (show 0 < 2 by omega)) e1) (show 1 < (swapS a b).length from (show 1 < 2 by omega)) e2
  · rw [hr]
    have : keptL [⟨a, [vT a]⟩, ⟨b, [vT b]⟩] = [] := by
      unfold keptL ownB
      simp [isV_one, vT]
    rw [List.append_nil, this]
theorem swap_idem : idemS (swapS a b) = false := by
  cases h : idemS (swapS a b) with
  | false => rfl
  | true =>
    exfalso
    have := idem_term h (x := ⟨a, [vT b]⟩) (by simp [swapS])
    have hl := swap_look h0 h1 h2 b
    rw [putT_cons, hl, if_neg (by omega), if_pos rfl] at this
    simp [putT, vT] at this
    omega
end

set_option maxHeartbeats 3200000 in
set_option maxRecDepth 100000 in
theorem law_swap {T : Nat → Prop} {w : World} {u : Value} {t : List Cell} {n k : Nat} (hh : HeadOK) (ht : Seq cellE T w u t) (hn : n ≤ 65535) (hk : k ≤ 65535) :
    Calls Try.prog 11 #[u, .int .u16 n, .int .u16 k] w (RetV (.bool true) w) := by
  have HB0 := Lib.hid (Below.refl w.heap.size w)
  have Ht := Lib.hid ht.any
  obtain ⟨ta, tc, rfl⟩ := ht.shape
  obtain ⟨low, e1⟩ : ∃ l, min ((n : Int) % 1000) ((k : Int) % 1000) = l := ⟨_, rfl⟩
  obtain ⟨high, e2⟩ : ∃ l, max ((n : Int) % 1000) ((k : Int) % 1000) = l := ⟨_, rfl⟩
  have b0 : 0 ≤ low := by omega
  have b1 : low ≤ high := by omega
  have b2 : high ≤ 999 := by omega
  clear ht
  go_enter Try.func11, Try.ntmps11
  go_wp2_with fail
  refine (hh (w := w)).mono ?_
  rintro e w1 ⟨rfl, hb⟩
  replace hb := below_step hb (Seq.way : Below w.heap.size w _)
  replace Ht := Lib.hid (Ht.out.at hb)
  have HB1 := Lib.hid (below_step hb HB0.out)
  clear hb
  by_cases hl : t.length ≤ 300
  · have hl' : ¬ (300 : Int) < (t.length : Int) := by omega
    clear hl
    go_wp2_with fail
    refine (RightR_spec (Ht.out.at Seq.way)).mono ?_
    rintro e w2 ⟨rfl, hb⟩
    replace hb := below_step hb (Seq.way : Below w1.heap.size w1 _)
    replace Ht := Lib.hid (Ht.out.at hb)
    have HB2 := Lib.hid (below_step hb HB1.out)
    clear hb
    cases hr : rightT t
    · go_wp2_with fail
      go_ret
      exact ⟨rfl, HB2.out⟩
    · by_cases hlh : low = high
      · have he : (low == high) = true := by simp [hlh]
        clear hlh
        go_wp2_with fail
        go_ret
        exact ⟨rfl, HB2.out⟩
      · have he : (low == high) = false := by simp [hlh]
        have hlt : low < high := by omega
        have rt : RightT t := of_decide_eq_true hr
        have sr := Lib.hid (swap_right b0 hlt b2)
        have s1 := swap_comp b0 hlt b2
        have s2 := swap_idem b0 hlt b2
        have s3 := swap_put b0 hlt b2 rt.cells
        have i1 : IntOK low := ⟨by omega, by omega⟩
        have i2 : IntOK high := ⟨by omega, by omega⟩
        have a1 : appO (swapS low high) t = some (putT (swapS low high) t) := appO_yes (by rw [s3.1]; exact rt.1)
        have a2 : appO (swapS low high) (putT (swapS low high) t) = some t := by rw [appO_yes (by rw [s3.2]; exact rt.1), s3.2]
        have HL := Lib.hid s3.1
        clear hlh hr rt s3
        go_wp2_with (go_at_call 27; refine vP_spec.mono ?_; rintro e _ ⟨rfl, rfl⟩)
        have Hs := Lib.hid (show Seq bindE (fun _ => True) (((((w2.alloc (.cells #[.int .i64 1, .string ⟨#[]⟩, .int .i64 high] 41)).alloc (.cells #[.int .i64 1, .string ⟨#[]⟩, .int .i64 high] 41)).alloc (.cells #[.int .i64 1, .string ⟨#[]⟩, .int .i64 low] 41)).alloc (.cells #[.int .i64 1, .string ⟨#[]⟩, .int .i64 low] 41)).alloc (.cells #[.int .i64 low, .slice (some ⟨w2.heap.size + 1, 0, none⟩) 1 1, .int .i64 high, .slice (some ⟨w2.heap.size + 1 + 1 + 1, 0, none⟩) 1 1] 44)) (.slice (some ⟨w2.heap.size + 1 + 1 + 1 + 1, 0, none⟩) 2 2) (swapS low high) from seq2B trivial (Row.new _ [_, _, _, _] _ (by simp)) i1 i2 (seqV trivial (Row.alloc (Row.alloc (Row.alloc (Row.new _ [_, _, _] _ (by simp)) _) _) _) i2) (seqV trivial (Row.alloc (Row.new _ [_, _, _] _ (by simp)) _) i1))
        refine (ApplyP_spec Hs.out sr.out.ne (Ht.out.at Seq.way)).mono ?_
        rintro e w3 ⟨v3, rfl, hb, hs⟩
        rw [a1] at hs ⊢
        replace hs := hs.any
        simp only [Option.getD_some] at hs
        obtain ⟨a3, c3, rfl⟩ := hs.shape
        replace Hs := Lib.hid (Hs.out.at hb)
        replace hb := below_step hb (Seq.way : Below w2.heap.size w2 _)
        replace Ht := Lib.hid (Ht.out.at hb)
        have HB3 := Lib.hid (below_step hb HB2.out)
        clear hb
        have Hx := Lib.hid hs
        clear hs i1 i2
        go_wp2_with fail
        refine (ApplyP_spec (Hs.out.at Seq.way) sr.out.ne (Hx.out.at Seq.way)).mono ?_
        rintro e w4 ⟨v4, rfl, hb, hs⟩
        rw [a2] at hs ⊢
        replace hs := hs.any
        (first | simp only [Option.getD_some] at hs | simp only [Option.getD_none] at hs | skip)
        obtain ⟨a4, c4, rfl⟩ := hs.shape
        replace hb := below_step hb (Seq.way : Below w3.heap.size w3 _)
        replace Ht := Lib.hid (Ht.out.at hb)
        replace Hs := Lib.hid (Hs.out.at hb)
        replace Hx := Lib.hid (Hx.out.at hb)
        have HB4 := Lib.hid (below_step hb HB3.out)
        clear hb
        have Hy := Lib.hid hs
        clear hs
        go_wp2_with fail
        refine (ComposeP_spec (Hs.out.at Seq.way) (Hs.out.at Seq.way) sr.out.ne sr.out.ne sr.out.var sr.out.var (by simp [swapS]) (by simp [swapS])).mono ?_
        rintro e w5 ⟨v5, rfl, hb, hs⟩
        rw [s1] at hs ⊢
        replace hs := hs.any
        (first | simp only [Option.getD_some] at hs | simp only [Option.getD_none] at hs | skip)
        obtain ⟨a5, c5, rfl⟩ := hs.shape
        replace hb := below_step hb (Seq.way : Below w4.heap.size w4 _)
        replace Ht := Lib.hid (Ht.out.at hb)
        replace Hs := Lib.hid (Hs.out.at hb)
        replace Hx := Lib.hid (Hx.out.at hb)
        replace Hy := Lib.hid (Hy.out.at hb)
        have HB5 := Lib.hid (below_step hb HB4.out)
        clear hb
        have Hc := Lib.hid hs
        clear hs
        go_wp2_with fail
        refine (RightS02_spec (Hs.out.at Seq.way)).mono ?_
        rintro e w6 ⟨rfl, hb⟩
        rw [rightS_iff.2 sr.out]
        replace hb := below_step hb (Seq.way : Below w5.heap.size w5 _)
        replace Ht := Lib.hid (Ht.out.at hb)
        replace Hs := Lib.hid (Hs.out.at hb)
        replace Hx := Lib.hid (Hx.out.at hb)
        replace Hy := Lib.hid (Hy.out.at hb)
        replace Hc := Lib.hid (Hc.out.at hb)
        have HB6 := Lib.hid (below_step hb HB5.out)
        clear hb
        go_wp2_with fail
        refine (IdemP_spec (Hs.out.at Seq.way) sr.out.ne (fun x hx => by have := (sr.out.term x hx).1; omega)).mono ?_
        rintro e w7 ⟨rfl, hb⟩
        rw [s2]
        replace hb := below_step hb (Seq.way : Below w6.heap.size w6 _)
        replace Ht := Lib.hid (Ht.out.at hb)
        replace Hs := Lib.hid (Hs.out.at hb)
        replace Hx := Lib.hid (Hx.out.at hb)
        replace Hy := Lib.hid (Hy.out.at hb)
        replace Hc := Lib.hid (Hc.out.at hb)
        have HB7 := Lib.hid (below_step hb HB6.out)
        clear hb
        go_wp2_with fail
        refine (SameT_spec (Hy.out.at Seq.way) (Ht.out.at Seq.way)).mono ?_
        rintro e w8 ⟨rfl, hq⟩
        have hb := hq.belowS
        clear hq
        rw [decide_eq_true (show t = t from rfl)]
        replace hb := below_step hb (Seq.way : Below w7.heap.size w7 _)
        replace Ht := Lib.hid (Ht.out.at hb)
        replace Hs := Lib.hid (Hs.out.at hb)
        replace Hx := Lib.hid (Hx.out.at hb)
        replace Hy := Lib.hid (Hy.out.at hb)
        replace Hc := Lib.hid (Hc.out.at hb)
        have HB8 := Lib.hid (below_step hb HB7.out)
        clear hb
        have hll := HL.out
        have hli : ((putT (swapS low high) t).length : Int) = (t.length : Int) := by omega
        clear hll
        go_wp2_with fail
        go_ret
        exact ⟨rfl, HB8.out⟩
  · have hl' : (300 : Int) < (t.length : Int) := by omega
    clear hl
    go_wp2_with fail
    go_ret
    exact ⟨rfl, HB1.out⟩
end Go.Proofs.Ytgfiaddldmmjiaa
