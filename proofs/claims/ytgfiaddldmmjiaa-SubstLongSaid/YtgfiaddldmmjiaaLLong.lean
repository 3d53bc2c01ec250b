/-
  Layer 2: the walk of SubstLong.
-/
import Derived.Test.YtgfiaddldmmjiaaSuU
namespace Go.Proofs.Ytgfiaddldmmjiaa
open Go Go.RowKit

set_option maxHeartbeats 3200000 in
set_option maxRecDepth 100000 in
theorem law_long {S T : Nat → Prop} {w : World} {v u : Value} {s : List Bnd} {t : List Cell} (hh : HeadOK) (hs : Seq bindE S w v s) (ht : Seq cellE T w u t) :
    Calls Try.prog 10 #[v, u] w (RetV (.bool true) w) := by
  have HB0 := Lib.hid (Below.refl w.heap.size w)
  have Hs := Lib.hid hs.any
  have Ht := Lib.hid ht.any
  obtain ⟨sa, sc, rfl⟩ := hs.shape
  obtain ⟨ta, tc, rfl⟩ := ht.shape
  clear hs ht
  go_enter Try.func10, Try.ntmps10
  go_wp2_with fail
  refine (hh (w := w)).mono ?_
  rintro e w1 ⟨rfl, hb⟩
  replace hb := below_step hb (Seq.way : Below w.heap.size w _)
  replace Hs := Lib.hid (Hs.out.at hb)
  replace Ht := Lib.hid (Ht.out.at hb)
  have HB1 := Lib.hid (below_step hb HB0.out)
  clear hb
  go_wp2_with fail
  refine (May_spec (Hs.out.at Seq.way) (Ht.out.at Seq.way)).mono ?_
  rintro e w2 ⟨rfl, hb⟩
  replace hb := below_step hb (Seq.way : Below w1.heap.size w1 _)
  replace Hs := Lib.hid (Hs.out.at hb)
  replace Ht := Lib.hid (Ht.out.at hb)
  have HB2 := Lib.hid (below_step hb HB1.out)
  clear hb
  cases h1 : mayS s t
  · go_wp2_with fail
    go_ret
    exact ⟨rfl, HB2.out⟩
  · obtain ⟨rs, rt, ls, ns⟩ := mayS_iff h1
    have Rs := Lib.hid rs
    have Rt := Lib.hid rt
    have Ls := Lib.hid ls
    have tl := rt.1
    clear rs rt ls h1
    go_wp2_with fail
    have hlen := Lib.hid (fun j => show (putT s (t.take j)).length ≤ 60000 from by
      have h1 := putT_len Ls.out (by omega) (t.take j)
      have h2 : (t.take j).length ≤ 200 := by rw [List.length_take]; omega
      omega)
    have HS := Hs.out
    obtain ⟨_, _, ee, -, -, -, -, s5⟩ := Hs.out
    simp only [Value.slice.injEq, true_and] at ee
    obtain ⟨rfl, rfl⟩ := ee
    obtain ⟨_, _, ee, -, -, -, -, t5⟩ := Ht.out
    simp only [Value.slice.injEq, true_and] at ee
    obtain ⟨rfl, rfl⟩ := ee
    have S5 := Lib.hid s5
    have T5 := Lib.hid t5
    have Hs0 := Lib.hid HS
    clear s5 t5 HS
    go_loopw [6, 7] (fun nn i wr => ∃ k : Nat, k ≤ t.length ∧ i = .int .i64 k ∧ nn = .int .i64 ((putT s (t.take k)).length : Nat) ∧ w2 = wr) (fun _ i _ => t.length - (intOf i).toNat)
    case atStart => exact ⟨0, Nat.zero_le _, rfl, rfl, rfl⟩
    case round =>
      obtain ⟨k, hk, rfl, rfl, rfl⟩ := hrel
      have hn1 := hlen.out k
      by_cases hlt : k < t.length
      · have hst := Lib.hid (putT_step (s := s) hlt)
        have hn2 := hlen.out (k + 1)
        obtain ⟨b, off, rfl, -, -, c0, -, c2, ok0, ok2, -⟩ := T5.out.cell hlt
        obtain ⟨c, hc⟩ : ∃ c, c = t[k] := ⟨_, rfl⟩
        rw [← hc] at c0 c2 ok0 ok2 hst
        obtain ⟨L, hL⟩ : ∃ L, L = putT s (t.take k) := ⟨_, rfl⟩
        rw [← hL] at hst hn1 ⊢
        have hkl : (k : Int) < (t.length : Int) := by omega
        have hk0 : (0 : Int) ≤ (k : Int) := by omega
        clear hc hL
        by_cases hkd : c.kind = 1
        · go_wp2_with fail
          refine (place_spec (n := c.n) Hs0.out).mono ?_
          rintro e _ ⟨rfl, rfl⟩
          rcases placeS_cases s c.n with ⟨hp, -⟩ | ⟨j, hj, hp, -, -⟩
          · have hl2 := Lib.hid (congrArg List.length (hst.out.1 hkd hp))
            rw [hp]
            clear hp hst
            go_wp2_with fail
            go_roundw
            case rel => exact ⟨k + 1, hlt, by go_num, by rw [hl2.out, List.length_append]; go_num, trivial⟩
            case measure => simp [intOf]; omega
          · have hl2 := Lib.hid (congrArg List.length (hst.out.2.2 hkd j hj hp))
            have hb1 := Ls.out _ (List.getElem_mem hj)
            obtain ⟨b2, o2, p2, n2, rfl, -, -, -, e1, -, -⟩ := S5.out.bnd2 hj
            obtain ⟨y, hy⟩ : ∃ y, y = s[j].t.length := ⟨_, rfl⟩
            rw [← hy] at e1 hb1
            rw [List.length_append, ← hy] at hl2
            rw [hp]
            have hj0 : (0 : Int) ≤ (j : Int) := by omega
            have hj1 : ¬ (j : Int) < 0 := by omega
            have hj2 : (j : Int) < (s.length : Int) := by omega
            clear hp hst hj hy
            go_wp2_with fail
            go_roundw
            case rel => exact ⟨k + 1, hlt, by go_num, by rw [hl2.out]; go_num, trivial⟩
            case measure => simp [intOf]; omega
        · have hl2 := Lib.hid (congrArg List.length (hst.out.2.1 hkd))
          have hkd' : (c.kind == 1) = false := by simpa using hkd
          clear hst
          go_wp2_with fail
          go_roundw
          case rel => exact ⟨k + 1, hlt, by go_num, by rw [hl2.out, List.length_append]; go_num, trivial⟩
          case measure => simp [intOf]; omega
      · obtain rfl : k = t.length := by omega
        rw [List.take_length] at hn1 ⊢
        clear hlen S5 T5
        by_cases h2 : (putT s t).length ≤ 200
        · have e1 := appO_yes h2
          have h2' : ((putT s t).length : Int) ≤ 200 := by omega
          go_wp2_with fail
          refine (ApplyP_spec (Hs0.out.at Seq.way) Rs.out.ne (Ht.out.at Seq.way)).mono ?_
          rintro e w3 ⟨v3, rfl, hb, hs⟩
          rw [e1] at hs ⊢
          replace hs := hs.any
          (first | simp only [Option.getD_some] at hs | simp only [Option.getD_none] at hs | skip)
          obtain ⟨a3, c3, rfl⟩ := hs.shape
          replace hb := below_step hb (Seq.way : Below w2.heap.size w2 _)
          replace Hs0 := Lib.hid (Hs0.out.at hb)
          replace Ht := Lib.hid (Ht.out.at hb)
          have HB3 := Lib.hid (below_step hb HB2.out)
          clear hb
          have Hx := Lib.hid hs
          clear hs
          go_wp2_with fail
          go_ret
          exact ⟨rfl, HB3.out⟩
        · have e1 := appO_none.2 (show 200 < (putT s t).length by omega)
          have h2' : ¬ ((putT s t).length : Int) ≤ 200 := by omega
          go_wp2_with fail
          refine (ApplyP_spec (Hs0.out.at Seq.way) Rs.out.ne (Ht.out.at Seq.way)).mono ?_
          rintro e w3 ⟨v3, rfl, hb, hs⟩
          rw [e1] at hs ⊢
          replace hs := hs.any
          (first | simp only [Option.getD_some] at hs | simp only [Option.getD_none] at hs | skip)
          obtain ⟨a3, c3, rfl⟩ := hs.shape
          replace hb := below_step hb (Seq.way : Below w2.heap.size w2 _)
          replace Hs0 := Lib.hid (Hs0.out.at hb)
          replace Ht := Lib.hid (Ht.out.at hb)
          have HB3 := Lib.hid (below_step hb HB2.out)
          clear hb
          have Hx := Lib.hid hs
          clear hs
          go_wp2_with fail
          go_ret
          exact ⟨ret_bool (by simp; omega), HB3.out⟩
end Go.Proofs.Ytgfiaddldmmjiaa
