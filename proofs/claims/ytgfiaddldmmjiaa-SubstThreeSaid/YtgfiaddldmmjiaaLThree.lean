/-
  Layer 2: the walk of SubstThree.
-/
import Derived.Test.YtgfiaddldmmjiaaSuU
namespace Go.Proofs.Ytgfiaddldmmjiaa
open Go Go.RowKit

theorem keptL_own {l : List Bnd} (h : ∀ x ∈ l, ownB x = false) : keptL l = l := by
  unfold keptL
  rw [List.filter_eq_self]
  intro x hx; rw [h x hx]; rfl
theorem RightS.le {s : List Bnd} (h : RightS s) : s.Pairwise fun a b => a.var ≤ b.var := h.inc.imp fun h => by omega
theorem comp_nil_r {a : List Bnd} (ha : RightS a) : composeL a [] = some a := by
  refine compose_law (L := a) ha.ne List.Pairwise.nil ha.var (by simp) ⟨rfl, fun i hi => ⟨a[i], a[i].t, List.getElem?_eq_getElem hi, List.getElem?_eq_getElem hi, ?_⟩⟩ ?_ ha.le
  · rw [appO_yes (by rw [putT_nil]; exact (ha.term _ (List.getElem_mem hi)).1), putT_nil]
  · rw [show restB a [] = [] from rfl, List.append_nil, keptL_own ha.own]
theorem comp_nil_l {a : List Bnd} (ha : RightS a) : composeL [] a = some a := by
  refine compose_law (L := []) List.Pairwise.nil ha.ne (by simp) ha.var ⟨rfl, fun i hi => by simp at hi⟩ ?_ ha.le
  have : restB [] a = a := by unfold restB fltL; rw [List.filter_eq_self]; intro x _; rfl
  rw [this, List.nil_append, keptL_own ha.own]
theorem comp_assoc {a b c ab bc d e : List Bnd} (ha : RightS a) (hb : RightS b) (hc : RightS c) (h1 : composeL a b = some ab) (h2 : composeL b c = some bc) (h3 : composeL ab c = some d) (h4 : composeL a bc = some e) : d = e := by
  obtain ⟨rab, l1⟩ := comp_bind ha hb h1
  obtain ⟨rbc, -⟩ := comp_bind hb hc h2
  obtain ⟨rd, l3⟩ := comp_bind rab hc h3
  obtain ⟨re, l4⟩ := comp_bind ha rbc h4
  refine look_ext rd re fun n h0 h9 => ?_
  have hcell : ∀ x ∈ lookS a (vT n), cellOK x = true := fun x hx => by
    cases hb : bindS a n with
    | some t => rw [lookS_bound (c := vT n) rfl hb] at hx; exact (ha.bind hb).1.cells x hx
    | none => rw [lookS_free (c := vT n) (.inr hb), List.mem_singleton] at hx; rw [hx]; exact vT_ok ⟨h0, h9⟩
  rw [← l3 n h0 h9, ← l4 n h0 h9, ← l1 n h0 h9, comp_put hb hc h2 hcell]
theorem rightS_few {s : List Bnd} (h : fewS s = true) : s.length ≤ 30 ∧ ∀ x ∈ s, x.t.length ≤ 300 := by
  unfold fewS at h
  simp only [Bool.and_eq_true, List.all_eq_true, decide_eq_true_eq] at h
  exact ⟨h.2, h.1⟩
theorem comp_len {a b c : List Bnd} (h : composeL a b = some c) : c.length ≤ 1000 := by
  have : ∀ n R, compTo a b n = some R → R.length ≤ n := by
    intro n
    induction n with
    | zero => intro R h; obtain rfl : [] = R := by simpa [compTo] using h
              simp
    | succ n ih =>
      intro R h
      rw [compTo_succ] at h
      obtain ⟨R', h1, h2⟩ := Option.bind_eq_some_iff.1 h
      obtain ⟨l, h3, rfl⟩ := Option.map_eq_some_iff.1 h2
      have := ih R' h1
      have := (stepC_var h3).1
      rw [List.length_append]; omega
  exact this 1000 c h

set_option maxHeartbeats 3200000 in
set_option maxRecDepth 100000 in
theorem law_three {S T Y : Nat → Prop} {w : World} {v u x : Value} {a b c : List Bnd} (hh : HeadOK) (ha : Seq bindE S w v a) (hb : Seq bindE T w u b) (hc : Seq bindE Y w x c) :
    Calls Try.prog 5 #[v, u, x] w (RetV (.bool true) w) := by
  have HB0 := Lib.hid (Below.refl w.heap.size w)
  have Ha := Lib.hid ha.any
  have Hb := Lib.hid hb.any
  have Hc := Lib.hid hc.any
  obtain ⟨aa, ac, rfl⟩ := ha.shape
  obtain ⟨ba, bc, rfl⟩ := hb.shape
  obtain ⟨ca, cc, rfl⟩ := hc.shape
  clear ha hb hc
  go_enter Try.func5, Try.ntmps5
  go_wp2_with fail
  refine (hh (w := w)).mono ?_
  rintro e w1 ⟨rfl, hb⟩
  replace hb := below_step hb (Seq.way : Below w.heap.size w _)
  replace Ha := Lib.hid (Ha.out.at hb)
  replace Hb := Lib.hid (Hb.out.at hb)
  replace Hc := Lib.hid (Hc.out.at hb)
  have HB1 := Lib.hid (below_step hb HB0.out)
  clear hb
  go_wp2_with fail
  refine (few_spec (Ha.out.at Seq.way)).mono ?_
  rintro e _ ⟨rfl, rfl⟩
  cases f1 : fewS a
  · go_wp2_with fail
    go_ret
    exact ⟨rfl, HB1.out⟩
  · go_wp2_with fail
    refine (few_spec (Hb.out.at Seq.way)).mono ?_
    rintro e _ ⟨rfl, rfl⟩
    cases f2 : fewS b
    · go_wp2_with fail
      go_ret
      exact ⟨rfl, HB1.out⟩
    · go_wp2_with fail
      refine (few_spec (Hc.out.at Seq.way)).mono ?_
      rintro e _ ⟨rfl, rfl⟩
      cases f3 : fewS c
      · go_wp2_with fail
        go_ret
        exact ⟨rfl, HB1.out⟩
      · go_wp2_with fail
        refine (RightS_spec (Ha.out.at Seq.way)).mono ?_
        rintro e w2 ⟨rfl, hb⟩
        replace hb := below_step hb (Seq.way : Below w1.heap.size w1 _)
        replace Ha := Lib.hid (Ha.out.at hb)
        replace Hb := Lib.hid (Hb.out.at hb)
        replace Hc := Lib.hid (Hc.out.at hb)
        have HB2 := Lib.hid (below_step hb HB1.out)
        clear hb
        cases r1 : rightS a
        · go_wp2_with fail
          go_ret
          exact ⟨rfl, HB2.out⟩
        · go_wp2_with fail
          refine (RightS_spec (Hb.out.at Seq.way)).mono ?_
          rintro e w3 ⟨rfl, hb⟩
          replace hb := below_step hb (Seq.way : Below w2.heap.size w2 _)
          replace Ha := Lib.hid (Ha.out.at hb)
          replace Hb := Lib.hid (Hb.out.at hb)
          replace Hc := Lib.hid (Hc.out.at hb)
          have HB3 := Lib.hid (below_step hb HB2.out)
          clear hb
          cases r2 : rightS b
          · go_wp2_with fail
            go_ret
            exact ⟨rfl, HB3.out⟩
          · go_wp2_with fail
            refine (RightS_spec (Hc.out.at Seq.way)).mono ?_
            rintro e w4 ⟨rfl, hb⟩
            replace hb := below_step hb (Seq.way : Below w3.heap.size w3 _)
            replace Ha := Lib.hid (Ha.out.at hb)
            replace Hb := Lib.hid (Hb.out.at hb)
            replace Hc := Lib.hid (Hc.out.at hb)
            have HB4 := Lib.hid (below_step hb HB3.out)
            clear hb
            cases r3 : rightS c
            · go_wp2_with fail
              go_ret
              exact ⟨rfl, HB4.out⟩
            · have Ra := Lib.hid (rightS_iff.1 r1)
              have Rb := Lib.hid (rightS_iff.1 r2)
              have Rc := Lib.hid (rightS_iff.1 r3)
              obtain ⟨la, -⟩ := rightS_few f1
              obtain ⟨lb, -⟩ := rightS_few f2
              obtain ⟨lc, -⟩ := rightS_few f3
              have n1 := comp_nil_r Ra.out
              have n2 := comp_nil_l Ra.out
              clear r1 r2 r3 f1 f2 f3
              go_wp2_with fail
              refine (ComposeP_spec (b := []) (Ha.out.at Seq.way) (Seq.nil bindE (fun _ => True) _) Ra.out.ne List.Pairwise.nil Ra.out.var (by simp) (by omega) (by simp)).mono ?_
              rintro e w5 ⟨v5, rfl, hb, hs⟩
              rw [n1] at hs ⊢
              replace hs := hs.any
              (first | simp only [Option.getD_some] at hs | simp only [Option.getD_none] at hs | skip)
              obtain ⟨a5, c5, rfl⟩ := hs.shape
              replace hb := below_step hb (Seq.way : Below w4.heap.size w4 _)
              replace Ha := Lib.hid (Ha.out.at hb)
              replace Hb := Lib.hid (Hb.out.at hb)
              replace Hc := Lib.hid (Hc.out.at hb)
              have HB5 := Lib.hid (below_step hb HB4.out)
              clear hb
              have Hx := Lib.hid hs
              clear hs
              go_wp2_with fail
              refine (ComposeP_spec (a := []) (Seq.nil bindE (fun _ => True) _) (Ha.out.at Seq.way) List.Pairwise.nil Ra.out.ne (by simp) Ra.out.var (by simp) (by omega)).mono ?_
              rintro e w6 ⟨v6, rfl, hb, hs⟩
              rw [n2] at hs ⊢
              replace hs := hs.any
              (first | simp only [Option.getD_some] at hs | simp only [Option.getD_none] at hs | skip)
              obtain ⟨a6, c6, rfl⟩ := hs.shape
              replace hb := below_step hb (Seq.way : Below w5.heap.size w5 _)
              replace Ha := Lib.hid (Ha.out.at hb)
              replace Hb := Lib.hid (Hb.out.at hb)
              replace Hc := Lib.hid (Hc.out.at hb)
              replace Hx := Lib.hid (Hx.out.at hb)
              have HB6 := Lib.hid (below_step hb HB5.out)
              clear hb
              have Hy := Lib.hid hs
              clear hs
              clear n1 n2
              cases h1 : composeL a b with
              | none =>
                go_wp2_with fail
                refine (ComposeP_spec (Ha.out.at Seq.way) (Hb.out.at Seq.way) Ra.out.ne Rb.out.ne Ra.out.var Rb.out.var (by omega) (by omega)).mono ?_
                rintro e w7 ⟨v7, rfl, hb, hs⟩
                rw [h1] at hs ⊢
                replace hs := hs.any
                (first | simp only [Option.getD_some] at hs | simp only [Option.getD_none] at hs | skip)
                obtain ⟨a7, c7, rfl⟩ := hs.shape
                replace hb := below_step hb (Seq.way : Below w6.heap.size w6 _)
                replace Ha := Lib.hid (Ha.out.at hb)
                replace Hb := Lib.hid (Hb.out.at hb)
                replace Hc := Lib.hid (Hc.out.at hb)
                replace Hx := Lib.hid (Hx.out.at hb)
                replace Hy := Lib.hid (Hy.out.at hb)
                have HB7 := Lib.hid (below_step hb HB6.out)
                clear hb
                have Hab := Lib.hid hs
                clear hs
                cases h2 : composeL b c with
                | none =>
                  go_wp2_with fail
                  refine (ComposeP_spec (Hb.out.at Seq.way) (Hc.out.at Seq.way) Rb.out.ne Rc.out.ne Rb.out.var Rc.out.var (by omega) (by omega)).mono ?_
                  rintro e w8 ⟨v8, rfl, hb, hs⟩
                  rw [h2] at hs ⊢
                  replace hs := hs.any
                  (first | simp only [Option.getD_some] at hs | simp only [Option.getD_none] at hs | skip)
                  obtain ⟨a8, c8, rfl⟩ := hs.shape
                  replace hb := below_step hb (Seq.way : Below w7.heap.size w7 _)
                  replace Ha := Lib.hid (Ha.out.at hb)
                  replace Hb := Lib.hid (Hb.out.at hb)
                  replace Hc := Lib.hid (Hc.out.at hb)
                  replace Hx := Lib.hid (Hx.out.at hb)
                  replace Hy := Lib.hid (Hy.out.at hb)
                  replace Hab := Lib.hid (Hab.out.at hb)
                  have HB8 := Lib.hid (below_step hb HB7.out)
                  clear hb
                  have Hbc := Lib.hid hs
                  clear hs
                  go_wp2_with fail
                  refine (SameS_spec (Hx.out.at Seq.way) (Ha.out.at Seq.way)).mono ?_
                  rintro e w9 ⟨rfl, hq⟩
                  have hb := hq.belowS
                  clear hq
                  rw [decide_eq_true (show a = a from rfl)]
                  replace hb := below_step hb (Seq.way : Below w8.heap.size w8 _)
                  replace Ha := Lib.hid (Ha.out.at hb)
                  replace Hb := Lib.hid (Hb.out.at hb)
                  replace Hc := Lib.hid (Hc.out.at hb)
                  replace Hx := Lib.hid (Hx.out.at hb)
                  replace Hy := Lib.hid (Hy.out.at hb)
                  replace Hab := Lib.hid (Hab.out.at hb)
                  replace Hbc := Lib.hid (Hbc.out.at hb)
                  have HB9 := Lib.hid (below_step hb HB8.out)
                  clear hb
                  go_wp2_with fail
                  refine (SameS_spec (Hy.out.at Seq.way) (Ha.out.at Seq.way)).mono ?_
                  rintro e w10 ⟨rfl, hq⟩
                  have hb := hq.belowS
                  clear hq
                  rw [decide_eq_true (show a = a from rfl)]
                  replace hb := below_step hb (Seq.way : Below w9.heap.size w9 _)
                  replace Ha := Lib.hid (Ha.out.at hb)
                  replace Hb := Lib.hid (Hb.out.at hb)
                  replace Hc := Lib.hid (Hc.out.at hb)
                  replace Hx := Lib.hid (Hx.out.at hb)
                  replace Hy := Lib.hid (Hy.out.at hb)
                  replace Hab := Lib.hid (Hab.out.at hb)
                  replace Hbc := Lib.hid (Hbc.out.at hb)
                  have HB10 := Lib.hid (below_step hb HB9.out)
                  clear hb
                  go_wp2_with fail
                  go_ret
                  exact ⟨rfl, HB10.out⟩
                | some bc =>
                  go_wp2_with fail
                  refine (ComposeP_spec (Hb.out.at Seq.way) (Hc.out.at Seq.way) Rb.out.ne Rc.out.ne Rb.out.var Rc.out.var (by omega) (by omega)).mono ?_
                  rintro e w8 ⟨v8, rfl, hb, hs⟩
                  rw [h2] at hs ⊢
                  replace hs := hs.any
                  (first | simp only [Option.getD_some] at hs | simp only [Option.getD_none] at hs | skip)
                  obtain ⟨a8, c8, rfl⟩ := hs.shape
                  replace hb := below_step hb (Seq.way : Below w7.heap.size w7 _)
                  replace Ha := Lib.hid (Ha.out.at hb)
                  replace Hb := Lib.hid (Hb.out.at hb)
                  replace Hc := Lib.hid (Hc.out.at hb)
                  replace Hx := Lib.hid (Hx.out.at hb)
                  replace Hy := Lib.hid (Hy.out.at hb)
                  replace Hab := Lib.hid (Hab.out.at hb)
                  have HB8 := Lib.hid (below_step hb HB7.out)
                  clear hb
                  have Hbc := Lib.hid hs
                  clear hs
                  go_wp2_with fail
                  refine (SameS_spec (Hx.out.at Seq.way) (Ha.out.at Seq.way)).mono ?_
                  rintro e w9 ⟨rfl, hq⟩
                  have hb := hq.belowS
                  clear hq
                  rw [decide_eq_true (show a = a from rfl)]
                  replace hb := below_step hb (Seq.way : Below w8.heap.size w8 _)
                  replace Ha := Lib.hid (Ha.out.at hb)
                  replace Hb := Lib.hid (Hb.out.at hb)
                  replace Hc := Lib.hid (Hc.out.at hb)
                  replace Hx := Lib.hid (Hx.out.at hb)
                  replace Hy := Lib.hid (Hy.out.at hb)
                  replace Hab := Lib.hid (Hab.out.at hb)
                  replace Hbc := Lib.hid (Hbc.out.at hb)
                  have HB9 := Lib.hid (below_step hb HB8.out)
                  clear hb
                  go_wp2_with fail
                  refine (SameS_spec (Hy.out.at Seq.way) (Ha.out.at Seq.way)).mono ?_
                  rintro e w10 ⟨rfl, hq⟩
                  have hb := hq.belowS
                  clear hq
                  rw [decide_eq_true (show a = a from rfl)]
                  replace hb := below_step hb (Seq.way : Below w9.heap.size w9 _)
                  replace Ha := Lib.hid (Ha.out.at hb)
                  replace Hb := Lib.hid (Hb.out.at hb)
                  replace Hc := Lib.hid (Hc.out.at hb)
                  replace Hx := Lib.hid (Hx.out.at hb)
                  replace Hy := Lib.hid (Hy.out.at hb)
                  replace Hab := Lib.hid (Hab.out.at hb)
                  replace Hbc := Lib.hid (Hbc.out.at hb)
                  have HB10 := Lib.hid (below_step hb HB9.out)
                  clear hb
                  go_wp2_with fail
                  go_ret
                  exact ⟨rfl, HB10.out⟩
              | some ab =>
                go_wp2_with fail
                refine (ComposeP_spec (Ha.out.at Seq.way) (Hb.out.at Seq.way) Ra.out.ne Rb.out.ne Ra.out.var Rb.out.var (by omega) (by omega)).mono ?_
                rintro e w7 ⟨v7, rfl, hb, hs⟩
                rw [h1] at hs ⊢
                replace hs := hs.any
                (first | simp only [Option.getD_some] at hs | simp only [Option.getD_none] at hs | skip)
                obtain ⟨a7, c7, rfl⟩ := hs.shape
                replace hb := below_step hb (Seq.way : Below w6.heap.size w6 _)
                replace Ha := Lib.hid (Ha.out.at hb)
                replace Hb := Lib.hid (Hb.out.at hb)
                replace Hc := Lib.hid (Hc.out.at hb)
                replace Hx := Lib.hid (Hx.out.at hb)
                replace Hy := Lib.hid (Hy.out.at hb)
                have HB7 := Lib.hid (below_step hb HB6.out)
                clear hb
                have Hab := Lib.hid hs
                clear hs
                cases h2 : composeL b c with
                | none =>
                  go_wp2_with fail
                  refine (ComposeP_spec (Hb.out.at Seq.way) (Hc.out.at Seq.way) Rb.out.ne Rc.out.ne Rb.out.var Rc.out.var (by omega) (by omega)).mono ?_
                  rintro e w8 ⟨v8, rfl, hb, hs⟩
                  rw [h2] at hs ⊢
                  replace hs := hs.any
                  (first | simp only [Option.getD_some] at hs | simp only [Option.getD_none] at hs | skip)
                  obtain ⟨a8, c8, rfl⟩ := hs.shape
                  replace hb := below_step hb (Seq.way : Below w7.heap.size w7 _)
                  replace Ha := Lib.hid (Ha.out.at hb)
                  replace Hb := Lib.hid (Hb.out.at hb)
                  replace Hc := Lib.hid (Hc.out.at hb)
                  replace Hx := Lib.hid (Hx.out.at hb)
                  replace Hy := Lib.hid (Hy.out.at hb)
                  replace Hab := Lib.hid (Hab.out.at hb)
                  have HB8 := Lib.hid (below_step hb HB7.out)
                  clear hb
                  have Hbc := Lib.hid hs
                  clear hs
                  go_wp2_with fail
                  refine (SameS_spec (Hx.out.at Seq.way) (Ha.out.at Seq.way)).mono ?_
                  rintro e w9 ⟨rfl, hq⟩
                  have hb := hq.belowS
                  clear hq
                  rw [decide_eq_true (show a = a from rfl)]
                  replace hb := below_step hb (Seq.way : Below w8.heap.size w8 _)
                  replace Ha := Lib.hid (Ha.out.at hb)
                  replace Hb := Lib.hid (Hb.out.at hb)
                  replace Hc := Lib.hid (Hc.out.at hb)
                  replace Hx := Lib.hid (Hx.out.at hb)
                  replace Hy := Lib.hid (Hy.out.at hb)
                  replace Hab := Lib.hid (Hab.out.at hb)
                  replace Hbc := Lib.hid (Hbc.out.at hb)
                  have HB9 := Lib.hid (below_step hb HB8.out)
                  clear hb
                  go_wp2_with fail
                  refine (SameS_spec (Hy.out.at Seq.way) (Ha.out.at Seq.way)).mono ?_
                  rintro e w10 ⟨rfl, hq⟩
                  have hb := hq.belowS
                  clear hq
                  rw [decide_eq_true (show a = a from rfl)]
                  replace hb := below_step hb (Seq.way : Below w9.heap.size w9 _)
                  replace Ha := Lib.hid (Ha.out.at hb)
                  replace Hb := Lib.hid (Hb.out.at hb)
                  replace Hc := Lib.hid (Hc.out.at hb)
                  replace Hx := Lib.hid (Hx.out.at hb)
                  replace Hy := Lib.hid (Hy.out.at hb)
                  replace Hab := Lib.hid (Hab.out.at hb)
                  replace Hbc := Lib.hid (Hbc.out.at hb)
                  have HB10 := Lib.hid (below_step hb HB9.out)
                  clear hb
                  go_wp2_with fail
                  go_ret
                  exact ⟨rfl, HB10.out⟩
                | some bc =>
                  go_wp2_with fail
                  refine (ComposeP_spec (Hb.out.at Seq.way) (Hc.out.at Seq.way) Rb.out.ne Rc.out.ne Rb.out.var Rc.out.var (by omega) (by omega)).mono ?_
                  rintro e w8 ⟨v8, rfl, hb, hs⟩
                  rw [h2] at hs ⊢
                  replace hs := hs.any
                  (first | simp only [Option.getD_some] at hs | simp only [Option.getD_none] at hs | skip)
                  obtain ⟨a8, c8, rfl⟩ := hs.shape
                  replace hb := below_step hb (Seq.way : Below w7.heap.size w7 _)
                  replace Ha := Lib.hid (Ha.out.at hb)
                  replace Hb := Lib.hid (Hb.out.at hb)
                  replace Hc := Lib.hid (Hc.out.at hb)
                  replace Hx := Lib.hid (Hx.out.at hb)
                  replace Hy := Lib.hid (Hy.out.at hb)
                  replace Hab := Lib.hid (Hab.out.at hb)
                  have HB8 := Lib.hid (below_step hb HB7.out)
                  clear hb
                  have Hbc := Lib.hid hs
                  clear hs
                  go_wp2_with fail
                  refine (SameS_spec (Hx.out.at Seq.way) (Ha.out.at Seq.way)).mono ?_
                  rintro e w9 ⟨rfl, hq⟩
                  have hb := hq.belowS
                  clear hq
                  rw [decide_eq_true (show a = a from rfl)]
                  replace hb := below_step hb (Seq.way : Below w8.heap.size w8 _)
                  replace Ha := Lib.hid (Ha.out.at hb)
                  replace Hb := Lib.hid (Hb.out.at hb)
                  replace Hc := Lib.hid (Hc.out.at hb)
                  replace Hx := Lib.hid (Hx.out.at hb)
                  replace Hy := Lib.hid (Hy.out.at hb)
                  replace Hab := Lib.hid (Hab.out.at hb)
                  replace Hbc := Lib.hid (Hbc.out.at hb)
                  have HB9 := Lib.hid (below_step hb HB8.out)
                  clear hb
                  go_wp2_with fail
                  refine (SameS_spec (Hy.out.at Seq.way) (Ha.out.at Seq.way)).mono ?_
                  rintro e w10 ⟨rfl, hq⟩
                  have hb := hq.belowS
                  clear hq
                  rw [decide_eq_true (show a = a from rfl)]
                  replace hb := below_step hb (Seq.way : Below w9.heap.size w9 _)
                  replace Ha := Lib.hid (Ha.out.at hb)
                  replace Hb := Lib.hid (Hb.out.at hb)
                  replace Hc := Lib.hid (Hc.out.at hb)
                  replace Hx := Lib.hid (Hx.out.at hb)
                  replace Hy := Lib.hid (Hy.out.at hb)
                  replace Hab := Lib.hid (Hab.out.at hb)
                  replace Hbc := Lib.hid (Hbc.out.at hb)
                  have HB10 := Lib.hid (below_step hb HB9.out)
                  clear hb
                  have Rab := Lib.hid (comp_bind Ra.out Rb.out h1).1
                  have Rbc := Lib.hid (comp_bind Rb.out Rc.out h2).1
                  have lab := comp_len h1
                  have lbc := comp_len h2
                  cases h3 : composeL ab c with
                  | none =>
                    go_wp2_with fail
                    refine (ComposeP_spec (Hab.out.at Seq.way) (Hc.out.at Seq.way) Rab.out.ne Rc.out.ne Rab.out.var Rc.out.var (by omega) (by omega)).mono ?_
                    rintro e w11 ⟨v11, rfl, hb, hs⟩
                    rw [h3] at hs ⊢
                    replace hs := hs.any
                    (first | simp only [Option.getD_some] at hs | simp only [Option.getD_none] at hs | skip)
                    obtain ⟨a11, c11, rfl⟩ := hs.shape
                    replace hb := below_step hb (Seq.way : Below w10.heap.size w10 _)
                    replace Ha := Lib.hid (Ha.out.at hb)
                    replace Hb := Lib.hid (Hb.out.at hb)
                    replace Hc := Lib.hid (Hc.out.at hb)
                    replace Hx := Lib.hid (Hx.out.at hb)
                    replace Hy := Lib.hid (Hy.out.at hb)
                    replace Hab := Lib.hid (Hab.out.at hb)
                    replace Hbc := Lib.hid (Hbc.out.at hb)
                    have HB11 := Lib.hid (below_step hb HB10.out)
                    clear hb
                    have Hd := Lib.hid hs
                    clear hs
                    cases h4 : composeL a bc with
                    | none =>
                      go_wp2_with fail
                      refine (ComposeP_spec (Ha.out.at Seq.way) (Hbc.out.at Seq.way) Ra.out.ne Rbc.out.ne Ra.out.var Rbc.out.var (by omega) (by omega)).mono ?_
                      rintro e w12 ⟨v12, rfl, hb, hs⟩
                      rw [h4] at hs ⊢
                      replace hs := hs.any
                      (first | simp only [Option.getD_some] at hs | simp only [Option.getD_none] at hs | skip)
                      obtain ⟨a12, c12, rfl⟩ := hs.shape
                      replace hb := below_step hb (Seq.way : Below w11.heap.size w11 _)
                      replace Ha := Lib.hid (Ha.out.at hb)
                      replace Hb := Lib.hid (Hb.out.at hb)
                      replace Hc := Lib.hid (Hc.out.at hb)
                      replace Hx := Lib.hid (Hx.out.at hb)
                      replace Hy := Lib.hid (Hy.out.at hb)
                      replace Hab := Lib.hid (Hab.out.at hb)
                      replace Hbc := Lib.hid (Hbc.out.at hb)
                      replace Hd := Lib.hid (Hd.out.at hb)
                      have HB12 := Lib.hid (below_step hb HB11.out)
                      clear hb
                      have Hf := Lib.hid hs
                      clear hs
                      go_wp2_with fail
                      go_ret
                      exact ⟨rfl, HB12.out⟩
                    | some f =>
                      go_wp2_with fail
                      refine (ComposeP_spec (Ha.out.at Seq.way) (Hbc.out.at Seq.way) Ra.out.ne Rbc.out.ne Ra.out.var Rbc.out.var (by omega) (by omega)).mono ?_
                      rintro e w12 ⟨v12, rfl, hb, hs⟩
                      rw [h4] at hs ⊢
                      replace hs := hs.any
                      (first | simp only [Option.getD_some] at hs | simp only [Option.getD_none] at hs | skip)
                      obtain ⟨a12, c12, rfl⟩ := hs.shape
                      replace hb := below_step hb (Seq.way : Below w11.heap.size w11 _)
                      replace Ha := Lib.hid (Ha.out.at hb)
                      replace Hb := Lib.hid (Hb.out.at hb)
                      replace Hc := Lib.hid (Hc.out.at hb)
                      replace Hx := Lib.hid (Hx.out.at hb)
                      replace Hy := Lib.hid (Hy.out.at hb)
                      replace Hab := Lib.hid (Hab.out.at hb)
                      replace Hbc := Lib.hid (Hbc.out.at hb)
                      replace Hd := Lib.hid (Hd.out.at hb)
                      have HB12 := Lib.hid (below_step hb HB11.out)
                      clear hb
                      have Hf := Lib.hid hs
                      clear hs
                      go_wp2_with fail
                      go_ret
                      exact ⟨rfl, HB12.out⟩
                  | some d =>
                    go_wp2_with fail
                    refine (ComposeP_spec (Hab.out.at Seq.way) (Hc.out.at Seq.way) Rab.out.ne Rc.out.ne Rab.out.var Rc.out.var (by omega) (by omega)).mono ?_
                    rintro e w11 ⟨v11, rfl, hb, hs⟩
                    rw [h3] at hs ⊢
                    replace hs := hs.any
                    (first | simp only [Option.getD_some] at hs | simp only [Option.getD_none] at hs | skip)
                    obtain ⟨a11, c11, rfl⟩ := hs.shape
                    replace hb := below_step hb (Seq.way : Below w10.heap.size w10 _)
                    replace Ha := Lib.hid (Ha.out.at hb)
                    replace Hb := Lib.hid (Hb.out.at hb)
                    replace Hc := Lib.hid (Hc.out.at hb)
                    replace Hx := Lib.hid (Hx.out.at hb)
                    replace Hy := Lib.hid (Hy.out.at hb)
                    replace Hab := Lib.hid (Hab.out.at hb)
                    replace Hbc := Lib.hid (Hbc.out.at hb)
                    have HB11 := Lib.hid (below_step hb HB10.out)
                    clear hb
                    have Hd := Lib.hid hs
                    clear hs
                    cases h4 : composeL a bc with
                    | none =>
                      go_wp2_with fail
                      refine (ComposeP_spec (Ha.out.at Seq.way) (Hbc.out.at Seq.way) Ra.out.ne Rbc.out.ne Ra.out.var Rbc.out.var (by omega) (by omega)).mono ?_
                      rintro e w12 ⟨v12, rfl, hb, hs⟩
                      rw [h4] at hs ⊢
                      replace hs := hs.any
                      (first | simp only [Option.getD_some] at hs | simp only [Option.getD_none] at hs | skip)
                      obtain ⟨a12, c12, rfl⟩ := hs.shape
                      replace hb := below_step hb (Seq.way : Below w11.heap.size w11 _)
                      replace Ha := Lib.hid (Ha.out.at hb)
                      replace Hb := Lib.hid (Hb.out.at hb)
                      replace Hc := Lib.hid (Hc.out.at hb)
                      replace Hx := Lib.hid (Hx.out.at hb)
                      replace Hy := Lib.hid (Hy.out.at hb)
                      replace Hab := Lib.hid (Hab.out.at hb)
                      replace Hbc := Lib.hid (Hbc.out.at hb)
                      replace Hd := Lib.hid (Hd.out.at hb)
                      have HB12 := Lib.hid (below_step hb HB11.out)
                      clear hb
                      have Hf := Lib.hid hs
                      clear hs
                      go_wp2_with fail
                      go_ret
                      exact ⟨rfl, HB12.out⟩
                    | some f =>
                      go_wp2_with fail
                      refine (ComposeP_spec (Ha.out.at Seq.way) (Hbc.out.at Seq.way) Ra.out.ne Rbc.out.ne Ra.out.var Rbc.out.var (by omega) (by omega)).mono ?_
                      rintro e w12 ⟨v12, rfl, hb, hs⟩
                      rw [h4] at hs ⊢
                      replace hs := hs.any
                      (first | simp only [Option.getD_some] at hs | simp only [Option.getD_none] at hs | skip)
                      obtain ⟨a12, c12, rfl⟩ := hs.shape
                      replace hb := below_step hb (Seq.way : Below w11.heap.size w11 _)
                      replace Ha := Lib.hid (Ha.out.at hb)
                      replace Hb := Lib.hid (Hb.out.at hb)
                      replace Hc := Lib.hid (Hc.out.at hb)
                      replace Hx := Lib.hid (Hx.out.at hb)
                      replace Hy := Lib.hid (Hy.out.at hb)
                      replace Hab := Lib.hid (Hab.out.at hb)
                      replace Hbc := Lib.hid (Hbc.out.at hb)
                      replace Hd := Lib.hid (Hd.out.at hb)
                      have HB12 := Lib.hid (below_step hb HB11.out)
                      clear hb
                      have Hf := Lib.hid hs
                      clear hs
                      have he := Lib.hid (comp_assoc Ra.out Rb.out Rc.out h1 h2 h3 h4)
                      go_wp2_with fail
                      refine (SameS_spec (Hd.out.at Seq.way) (Hf.out.at Seq.way)).mono ?_
                      rintro e w13 ⟨rfl, hq⟩
                      have hb := hq.belowS
                      clear hq
                      rw [decide_eq_true he.out]
                      replace hb := below_step hb (Seq.way : Below w12.heap.size w12 _)
                      replace Ha := Lib.hid (Ha.out.at hb)
                      replace Hb := Lib.hid (Hb.out.at hb)
                      replace Hc := Lib.hid (Hc.out.at hb)
                      replace Hx := Lib.hid (Hx.out.at hb)
                      replace Hy := Lib.hid (Hy.out.at hb)
                      replace Hab := Lib.hid (Hab.out.at hb)
                      replace Hbc := Lib.hid (Hbc.out.at hb)
                      replace Hd := Lib.hid (Hd.out.at hb)
                      replace Hf := Lib.hid (Hf.out.at hb)
                      have HB13 := Lib.hid (below_step hb HB12.out)
                      clear hb
                      go_wp2_with fail
                      go_ret
                      exact ⟨rfl, HB13.out⟩
end Go.Proofs.Ytgfiaddldmmjiaa
