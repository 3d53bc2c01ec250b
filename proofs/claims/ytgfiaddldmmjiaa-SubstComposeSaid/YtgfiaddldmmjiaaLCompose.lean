/-
  Layer 2: the walk of SubstCompose.
-/
import Derived.Test.YtgfiaddldmmjiaaSuU
namespace Go.Proofs.Ytgfiaddldmmjiaa
open Go Go.RowKit

set_option maxHeartbeats 3200000 in
set_option maxRecDepth 100000 in
theorem law_compose {S T Y : Nat → Prop} {w : World} {v u x : Value} {a b : List Bnd} {t : List Cell} (hh : HeadOK) (ha : Seq bindE S w v a) (hb : Seq bindE T w u b) (ht : Seq cellE Y w x t) :
    Calls Try.prog 4 #[v, u, x] w (RetV (.bool true) w) := by
  have HB0 := Lib.hid (Below.refl w.heap.size w)
  have Ha := Lib.hid ha.any
  have Hb := Lib.hid hb.any
  have Ht := Lib.hid ht.any
  obtain ⟨aa, ac, rfl⟩ := ha.shape
  obtain ⟨ba, bc, rfl⟩ := hb.shape
  obtain ⟨ta, tc, rfl⟩ := ht.shape
  clear ha hb ht
  go_enter Try.func4, Try.ntmps4
  go_wp2_with fail
  refine (hh (w := w)).mono ?_
  rintro e w1 ⟨rfl, hb⟩
  replace hb := below_step hb (Seq.way : Below w.heap.size w _)
  replace Ha := Lib.hid (Ha.out.at hb)
  replace Hb := Lib.hid (Hb.out.at hb)
  replace Ht := Lib.hid (Ht.out.at hb)
  have HB1 := Lib.hid (below_step hb HB0.out)
  clear hb
  go_wp2_with fail
  refine (May_spec (Ha.out.at Seq.way) (Ht.out.at Seq.way)).mono ?_
  rintro e w2 ⟨rfl, hb⟩
  replace hb := below_step hb (Seq.way : Below w1.heap.size w1 _)
  replace Ha := Lib.hid (Ha.out.at hb)
  replace Hb := Lib.hid (Hb.out.at hb)
  replace Ht := Lib.hid (Ht.out.at hb)
  have HB2 := Lib.hid (below_step hb HB1.out)
  clear hb
  cases h1 : mayS a t
  · go_wp2_with fail
    go_ret
    exact ⟨rfl, HB2.out⟩
  · go_wp2_with fail
    refine (May_spec (Hb.out.at Seq.way) (Ht.out.at Seq.way)).mono ?_
    rintro e w3 ⟨rfl, hb⟩
    replace hb := below_step hb (Seq.way : Below w2.heap.size w2 _)
    replace Ha := Lib.hid (Ha.out.at hb)
    replace Hb := Lib.hid (Hb.out.at hb)
    replace Ht := Lib.hid (Ht.out.at hb)
    have HB3 := Lib.hid (below_step hb HB2.out)
    clear hb
    cases h2 : mayS b t
    · go_wp2_with fail
      go_ret
      exact ⟨rfl, HB3.out⟩
    · obtain ⟨ra, rt, la, na⟩ := mayS_iff h1
      obtain ⟨rb, -, lb, nb⟩ := mayS_iff h2
      have Ra := Lib.hid ra
      have Rb := Lib.hid rb
      have Rt := Lib.hid rt
      clear ra rb rt h1 h2
      cases hc : composeL a b with
      | none =>
        go_wp2_with fail
        refine (ComposeP_spec (Ha.out.at Seq.way) (Hb.out.at Seq.way) Ra.out.ne Rb.out.ne Ra.out.var Rb.out.var (by omega) (by omega)).mono ?_
        rintro e w4 ⟨v4, rfl, hb, hs⟩
        rw [hc] at hs ⊢
        replace hs := hs.any
        (first | simp only [Option.getD_some] at hs | simp only [Option.getD_none] at hs | skip)
        obtain ⟨a4, c4, rfl⟩ := hs.shape
        replace hb := below_step hb (Seq.way : Below w3.heap.size w3 _)
        replace Ha := Lib.hid (Ha.out.at hb)
        replace Hb := Lib.hid (Hb.out.at hb)
        replace Ht := Lib.hid (Ht.out.at hb)
        have HB4 := Lib.hid (below_step hb HB3.out)
        clear hb
        have Hc := Lib.hid hs
        clear hs
        go_wp2_with fail
        go_ret
        exact ⟨rfl, HB4.out⟩
      | some c =>
        obtain ⟨rc, -⟩ := comp_bind Ra.out Rb.out hc
        have Rc := Lib.hid rc
        have hput := Lib.hid (comp_put Ra.out Rb.out hc Rt.out.cells)
        clear rc
        go_wp2_with fail
        refine (ComposeP_spec (Ha.out.at Seq.way) (Hb.out.at Seq.way) Ra.out.ne Rb.out.ne Ra.out.var Rb.out.var (by omega) (by omega)).mono ?_
        rintro e w4 ⟨v4, rfl, hb, hs⟩
        rw [hc] at hs ⊢
        replace hs := hs.any
        (first | simp only [Option.getD_some] at hs | simp only [Option.getD_none] at hs | skip)
        obtain ⟨a4, c4, rfl⟩ := hs.shape
        replace hb := below_step hb (Seq.way : Below w3.heap.size w3 _)
        replace Ha := Lib.hid (Ha.out.at hb)
        replace Hb := Lib.hid (Hb.out.at hb)
        replace Ht := Lib.hid (Ht.out.at hb)
        have HB4 := Lib.hid (below_step hb HB3.out)
        clear hb
        have Hc := Lib.hid hs
        clear hs
        have hge := Lib.hid (putT_ge Rb.out (putT a t))
        by_cases h1 : (putT a t).length ≤ 200
        · have e1 := appO_yes h1
          go_wp2_with fail
          refine (ApplyP_spec (Ha.out.at Seq.way) Ra.out.ne (Ht.out.at Seq.way)).mono ?_
          rintro e w5 ⟨v5, rfl, hb, hs⟩
          rw [e1] at hs ⊢
          replace hs := hs.any
          (first | simp only [Option.getD_some] at hs | simp only [Option.getD_none] at hs | skip)
          obtain ⟨a5, c5, rfl⟩ := hs.shape
          replace hb := below_step hb (Seq.way : Below w4.heap.size w4 _)
          replace Ha := Lib.hid (Ha.out.at hb)
          replace Hb := Lib.hid (Hb.out.at hb)
          replace Ht := Lib.hid (Ht.out.at hb)
          replace Hc := Lib.hid (Hc.out.at hb)
          have HB5 := Lib.hid (below_step hb HB4.out)
          clear hb
          have Hx := Lib.hid hs
          clear hs
          by_cases h2 : (putT b (putT a t)).length ≤ 200
          · have e2 := appO_yes h2
            have e3 : appO c t = some (putT b (putT a t)) := by rw [appO_yes (by rw [hput.out]; exact h2), hput.out]
            go_wp2_with fail
            refine (ApplyP_spec (Hb.out.at Seq.way) Rb.out.ne (Hx.out.at Seq.way)).mono ?_
            rintro e w6 ⟨v6, rfl, hb, hs⟩
            rw [e2] at hs ⊢
            replace hs := hs.any
            (first | simp only [Option.getD_some] at hs | simp only [Option.getD_none] at hs | skip)
            obtain ⟨a6, c6, rfl⟩ := hs.shape
            replace hb := below_step hb (Seq.way : Below w5.heap.size w5 _)
            replace Ha := Lib.hid (Ha.out.at hb)
            replace Hb := Lib.hid (Hb.out.at hb)
            replace Ht := Lib.hid (Ht.out.at hb)
            replace Hc := Lib.hid (Hc.out.at hb)
            replace Hx := Lib.hid (Hx.out.at hb)
            have HB6 := Lib.hid (below_step hb HB5.out)
            clear hb
            have Hy := Lib.hid hs
            clear hs
            go_wp2_with fail
            refine (ApplyP_spec (Hc.out.at Seq.way) Rc.out.ne (Ht.out.at Seq.way)).mono ?_
            rintro e w7 ⟨v7, rfl, hb, hs⟩
            rw [e3] at hs ⊢
            replace hs := hs.any
            (first | simp only [Option.getD_some] at hs | simp only [Option.getD_none] at hs | skip)
            obtain ⟨a7, c7, rfl⟩ := hs.shape
            replace hb := below_step hb (Seq.way : Below w6.heap.size w6 _)
            replace Ha := Lib.hid (Ha.out.at hb)
            replace Hb := Lib.hid (Hb.out.at hb)
            replace Ht := Lib.hid (Ht.out.at hb)
            replace Hc := Lib.hid (Hc.out.at hb)
            replace Hx := Lib.hid (Hx.out.at hb)
            replace Hy := Lib.hid (Hy.out.at hb)
            have HB7 := Lib.hid (below_step hb HB6.out)
            clear hb
            have Hz := Lib.hid hs
            clear hs
            go_wp2_with fail
            refine (RightS02_spec (Hc.out.at Seq.way)).mono ?_
            rintro e w8 ⟨rfl, hb⟩
            rw [rightS_iff.2 Rc.out]
            replace hb := below_step hb (Seq.way : Below w7.heap.size w7 _)
            replace Ha := Lib.hid (Ha.out.at hb)
            replace Hb := Lib.hid (Hb.out.at hb)
            replace Ht := Lib.hid (Ht.out.at hb)
            replace Hc := Lib.hid (Hc.out.at hb)
            replace Hx := Lib.hid (Hx.out.at hb)
            replace Hy := Lib.hid (Hy.out.at hb)
            replace Hz := Lib.hid (Hz.out.at hb)
            have HB8 := Lib.hid (below_step hb HB7.out)
            clear hb
            go_wp2_with fail
            refine (SameT_spec (Hy.out.at Seq.way) (Hz.out.at Seq.way)).mono ?_
            rintro e w9 ⟨rfl, hq⟩
            have hb := hq.belowS
            clear hq
            rw [decide_eq_true (show putT b (putT a t) = putT b (putT a t) from rfl)]
            replace hb := below_step hb (Seq.way : Below w8.heap.size w8 _)
            replace Ha := Lib.hid (Ha.out.at hb)
            replace Hb := Lib.hid (Hb.out.at hb)
            replace Ht := Lib.hid (Ht.out.at hb)
            replace Hc := Lib.hid (Hc.out.at hb)
            replace Hx := Lib.hid (Hx.out.at hb)
            replace Hy := Lib.hid (Hy.out.at hb)
            replace Hz := Lib.hid (Hz.out.at hb)
            have HB9 := Lib.hid (below_step hb HB8.out)
            clear hb
            go_wp2_with fail
            go_ret
            exact ⟨rfl, HB9.out⟩
          · have e2 := appO_none.2 (show 200 < (putT b (putT a t)).length by omega)
            have e3 : appO c t = none := by rw [appO_none, hput.out]; omega
            go_wp2_with fail
            refine (ApplyP_spec (Hb.out.at Seq.way) Rb.out.ne (Hx.out.at Seq.way)).mono ?_
            rintro e w6 ⟨v6, rfl, hb, hs⟩
            rw [e2] at hs ⊢
            replace hs := hs.any
            (first | simp only [Option.getD_some] at hs | simp only [Option.getD_none] at hs | skip)
            obtain ⟨a6, c6, rfl⟩ := hs.shape
            replace hb := below_step hb (Seq.way : Below w5.heap.size w5 _)
            replace Ha := Lib.hid (Ha.out.at hb)
            replace Hb := Lib.hid (Hb.out.at hb)
            replace Ht := Lib.hid (Ht.out.at hb)
            replace Hc := Lib.hid (Hc.out.at hb)
            replace Hx := Lib.hid (Hx.out.at hb)
            have HB6 := Lib.hid (below_step hb HB5.out)
            clear hb
            have Hy := Lib.hid hs
            clear hs
            go_wp2_with fail
            refine (ApplyP_spec (Hc.out.at Seq.way) Rc.out.ne (Ht.out.at Seq.way)).mono ?_
            rintro e w7 ⟨v7, rfl, hb, hs⟩
            rw [e3] at hs ⊢
            replace hs := hs.any
            (first | simp only [Option.getD_some] at hs | simp only [Option.getD_none] at hs | skip)
            obtain ⟨a7, c7, rfl⟩ := hs.shape
            replace hb := below_step hb (Seq.way : Below w6.heap.size w6 _)
            replace Ha := Lib.hid (Ha.out.at hb)
            replace Hb := Lib.hid (Hb.out.at hb)
            replace Ht := Lib.hid (Ht.out.at hb)
            replace Hc := Lib.hid (Hc.out.at hb)
            replace Hx := Lib.hid (Hx.out.at hb)
            replace Hy := Lib.hid (Hy.out.at hb)
            have HB7 := Lib.hid (below_step hb HB6.out)
            clear hb
            have Hz := Lib.hid hs
            clear hs
            go_wp2_with fail
            refine (RightS02_spec (Hc.out.at Seq.way)).mono ?_
            rintro e w8 ⟨rfl, hb⟩
            rw [rightS_iff.2 Rc.out]
            replace hb := below_step hb (Seq.way : Below w7.heap.size w7 _)
            replace Ha := Lib.hid (Ha.out.at hb)
            replace Hb := Lib.hid (Hb.out.at hb)
            replace Ht := Lib.hid (Ht.out.at hb)
            replace Hc := Lib.hid (Hc.out.at hb)
            replace Hx := Lib.hid (Hx.out.at hb)
            replace Hy := Lib.hid (Hy.out.at hb)
            replace Hz := Lib.hid (Hz.out.at hb)
            have HB8 := Lib.hid (below_step hb HB7.out)
            clear hb
            go_wp2_with fail
            go_ret
            exact ⟨rfl, HB8.out⟩
        · have e1 := appO_none.2 (show 200 < (putT a t).length by omega)
          have e3 : appO c t = none := by rw [appO_none, hput.out]; have := hge.out; omega
          go_wp2_with fail
          refine (ApplyP_spec (Ha.out.at Seq.way) Ra.out.ne (Ht.out.at Seq.way)).mono ?_
          rintro e w5 ⟨v5, rfl, hb, hs⟩
          rw [e1] at hs ⊢
          replace hs := hs.any
          (first | simp only [Option.getD_some] at hs | simp only [Option.getD_none] at hs | skip)
          obtain ⟨a5, c5, rfl⟩ := hs.shape
          replace hb := below_step hb (Seq.way : Below w4.heap.size w4 _)
          replace Ha := Lib.hid (Ha.out.at hb)
          replace Hb := Lib.hid (Hb.out.at hb)
          replace Ht := Lib.hid (Ht.out.at hb)
          replace Hc := Lib.hid (Hc.out.at hb)
          have HB5 := Lib.hid (below_step hb HB4.out)
          clear hb
          have Hx := Lib.hid hs
          clear hs
          go_wp2_with fail
          refine (ApplyP_spec (Hc.out.at Seq.way) Rc.out.ne (Ht.out.at Seq.way)).mono ?_
          rintro e w6 ⟨v6, rfl, hb, hs⟩
          rw [e3] at hs ⊢
          replace hs := hs.any
          (first | simp only [Option.getD_some] at hs | simp only [Option.getD_none] at hs | skip)
          obtain ⟨a6, c6, rfl⟩ := hs.shape
          replace hb := below_step hb (Seq.way : Below w5.heap.size w5 _)
          replace Ha := Lib.hid (Ha.out.at hb)
          replace Hb := Lib.hid (Hb.out.at hb)
          replace Ht := Lib.hid (Ht.out.at hb)
          replace Hc := Lib.hid (Hc.out.at hb)
          replace Hx := Lib.hid (Hx.out.at hb)
          have HB6 := Lib.hid (below_step hb HB5.out)
          clear hb
          have Hz := Lib.hid hs
          clear hs
          go_wp2_with fail
          refine (RightS02_spec (Hc.out.at Seq.way)).mono ?_
          rintro e w7 ⟨rfl, hb⟩
          rw [rightS_iff.2 Rc.out]
          replace hb := below_step hb (Seq.way : Below w6.heap.size w6 _)
          replace Ha := Lib.hid (Ha.out.at hb)
          replace Hb := Lib.hid (Hb.out.at hb)
          replace Ht := Lib.hid (Ht.out.at hb)
          replace Hc := Lib.hid (Hc.out.at hb)
          replace Hx := Lib.hid (Hx.out.at hb)
          replace Hz := Lib.hid (Hz.out.at hb)
          have HB7 := Lib.hid (below_step hb HB6.out)
          clear hb
          go_wp2_with fail
          go_ret
          exact ⟨rfl, HB7.out⟩
end Go.Proofs.Ytgfiaddldmmjiaa
