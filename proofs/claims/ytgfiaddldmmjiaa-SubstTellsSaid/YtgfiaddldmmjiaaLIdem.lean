/-
  Layer 2: the walk of SubstIdem.
-/
import Derived.Test.YtgfiaddldmmjiaaSuV
namespace Go.Proofs.Ytgfiaddldmmjiaa
open Go Go.RowKit

theorem hit_look {s : List Bnd} {c : Cell} (h : hitS s c = false) : lookS s c = [c] := by
  rw [hitS_iff] at h
  by_cases hk : c.kind = 1
  · rw [decide_eq_true hk, Bool.true_and] at h
    exact lookS_free (.inr (by cases hb : bindS s c.n with | none => rfl | some t => rw [hb] at h; cases h))
  · exact lookS_free (.inl hk)
theorem idem_cell {s : List Bnd} (h : idemS s = true) {x : Bnd} (hx : x ∈ s) : ∀ c ∈ x.t, lookS s c = [c] := fun c hc => by
  unfold idemS at h
  have := List.all_eq_true.1 (List.all_eq_true.1 h x hx) c hc
  exact hit_look (by simpa using this)
theorem put_free {s : List Bnd} : ∀ {t : List Cell}, (∀ c ∈ t, lookS s c = [c]) → putT s t = t
  | [], _ => rfl
  | c :: t, h => by
    rw [putT_cons, h c (by simp), put_free fun x hx => h x (by simp [hx])]; rfl
theorem idem_term {s : List Bnd} (h : idemS s = true) {x : Bnd} (hx : x ∈ s) : putT s x.t = x.t := put_free (idem_cell h hx)
theorem idem_put {s : List Bnd} (h : idemS s = true) : ∀ t : List Cell, putT s (putT s t) = putT s t
  | [] => rfl
  | c :: t => by
    rw [putT_cons, putT_app, idem_put h t]
    refine congrArg (fun z => z ++ putT s t) ?_
    by_cases hk : c.kind = 1
    · cases hb : bindS s c.n with
      | some tb =>
        rw [lookS_bound hk hb]
        obtain ⟨b, hb1, -, rfl⟩ := bindS_mem hb
        exact idem_term h hb1
      | none =>
        rw [lookS_free (.inr hb), putT_cons, lookS_free (.inr hb)]; rfl
    · rw [lookS_free (.inl hk), putT_cons, lookS_free (.inl hk)]; rfl
theorem comp_idem {s : List Bnd} (hs : RightS s) (h : idemS s = true) : composeL s s = some s := by
  refine compose_law (L := s) hs.ne hs.ne hs.var hs.var ⟨rfl, fun i hi => ⟨s[i], s[i].t, List.getElem?_eq_getElem hi, List.getElem?_eq_getElem hi, ?_⟩⟩ ?_ (hs.inc.imp fun h => by omega)
  · have := idem_term h (List.getElem_mem hi)
    rw [appO_yes (by rw [this]; exact (hs.term _ (List.getElem_mem hi)).1), this]
  · have e : restB s s = [] := by
      unfold restB fltL
      rw [List.filter_eq_nil_iff]
      intro x hx
      rw [bindS_in hs hx]; simp
    rw [e, List.append_nil]
    have : keptL s = s := by
      unfold keptL
      rw [List.filter_eq_self]
      intro x hx; rw [hs.own x hx]; rfl
    rw [this]
theorem idem_false {s : List Bnd} (hs : RightS s) (h : idemS s = false) (hall : ∀ x ∈ s, putT s x.t = x.t) : False := by
  have : idemS s = true := by
    unfold idemS
    rw [List.all_eq_true]
    intro x hx
    rw [List.all_eq_true]
    intro c hc
    have h1 := putT_fix hs (hall x hx) c hc
    rw [hitS_iff]
    by_cases hk : c.kind = 1
    · cases hb : bindS s c.n with
      | none => simp
      | some tb =>
        exfalso
        rw [lookS_bound hk hb] at h1
        have h2 := (hs.bind hb).2.1
        rw [h1, isV_one] at h2
        simp [hk] at h2
    · simp [hk]
  rw [this] at h; cases h
theorem put_var {s : List Bnd} (hs : RightS s) {x : Bnd} (hx : x ∈ s) : putT s [vT x.var] = x.t := by
  rw [putT_cons, lookS_bound (c := vT x.var) rfl (bindS_in hs hx)]
  show x.t ++ [] = _
  simp

theorem Seq.sat' {α : Type} {E : Elt α} {S : Nat → Prop} {w : World} {ao : Option Addr} {n cap : Nat} {xs : List α} (h : Seq E S w (.slice ao n cap) xs) : SeqAt E S w ao xs := by
  obtain ⟨_, _, ee, -, -, -, -, h5⟩ := h
  simp only [Value.slice.injEq] at ee
  obtain ⟨rfl, -⟩ := ee
  exact h5
set_option maxHeartbeats 3200000 in
set_option maxRecDepth 100000 in
theorem law_idem {S T : Nat → Prop} {w : World} {v u : Value} {s : List Bnd} {t : List Cell} (hh : HeadOK) (hs : Seq bindE S w v s) (ht : Seq cellE T w u t) :
    Calls Try.prog 6 #[v, u] w (RetV (.bool true) w) := by
  have HB0 := Lib.hid (Below.refl w.heap.size w)
  have Hs := Lib.hid hs.any
  have Ht := Lib.hid ht.any
  obtain ⟨sa, sc, rfl⟩ := hs.shape
  obtain ⟨ta, tc, rfl⟩ := ht.shape
  clear hs ht
  go_enter Try.func6, Try.ntmps6
  go_wp2_with fail
  refine (hh (w := w)).mono ?_
  rintro e w1 ⟨rfl, hb⟩
  replace hb := below_step hb (Seq.way : Below w.heap.size w _)
  replace Hs := Lib.hid (Hs.out.at hb)
  replace Ht := Lib.hid (Ht.out.at hb)
  have HB1 := Lib.hid (below_step hb HB0.out)
  clear hb
  go_wp2_with fail
  refine (May_spec (Hs.out.at Seq.way) (Ht.out.at Seq.way)).mono ?_
  rintro e w2 ⟨rfl, hb⟩
  replace hb := below_step hb (Seq.way : Below w1.heap.size w1 _)
  replace Hs := Lib.hid (Hs.out.at hb)
  replace Ht := Lib.hid (Ht.out.at hb)
  have HB2 := Lib.hid (below_step hb HB1.out)
  clear hb
  cases h1 : mayS s t
  · go_wp2_with fail
    go_ret
    exact ⟨rfl, HB2.out⟩
  · obtain ⟨rs, rt, ls, ns⟩ := mayS_iff h1
    have Rs := Lib.hid rs
    have Rt := Lib.hid rt
    have Ls := Lib.hid ls
    clear rs rt ls h1
    go_wp2_with fail
    refine (IdemP_spec (Hs.out.at Seq.way) Rs.out.ne Ls.out).mono ?_
    rintro e w3 ⟨rfl, hb⟩
    replace hb := below_step hb (Seq.way : Below w2.heap.size w2 _)
    replace Hs := Lib.hid (Hs.out.at hb)
    replace Ht := Lib.hid (Ht.out.at hb)
    have HB3 := Lib.hid (below_step hb HB2.out)
    clear hb
    cases hi : idemS s
    · have Hno := Lib.hid (fun h => idem_false Rs.out hi h)
      clear hi Ht
      go_wp2_with fail
      have hsf := fun {w' : World} (h : Below w3.heap.size w3 w') => Lib.hid (Hs.out.sat'.below h fun _ _ h => h : SeqAt bindE _ w' sa s)
      go_loopw [12] (fun i wr => ∃ k : Nat, k ≤ s.length ∧ i = .int .i64 k ∧ Hid (∀ x ∈ s.take k, putT s x.t = x.t) ∧ Below w3.heap.size w3 wr) (fun i _ => s.length - (intOf i).toNat)
      case atStart => exact ⟨0, Nat.zero_le _, rfl, Lib.hid (by simp), Below.refl _ _⟩
      case round =>
        obtain ⟨k, hk, rfl, hM, hbr⟩ := hrel
        have HBr := Lib.hid hbr
        have hzr := hbr.size
        by_cases hlt : k < s.length
        · obtain ⟨b, off, p1, n1, rfl, -, lb, c0, c1, ok0, hX⟩ := (hsf hbr).out.bnd2 hlt
          have hvar := Lib.hid (put_var Rs.out (List.getElem_mem hlt))
          have hterm := Rs.out.term _ (List.getElem_mem hlt)
          have hyes := Lib.hid (show putT s s[k].t = s[k].t → ∀ x ∈ s.take (k + 1), putT s x.t = x.t from fun h x hx => by
            rw [List.take_succ_eq_append_getElem hlt] at hx
            rcases List.mem_append.1 hx with hx | hx
            · exact hM.out x hx
            · rw [List.mem_singleton] at hx; rw [hx]; exact h)
          have HX := Lib.hid hX
          obtain ⟨⟨xa, xt⟩, hx⟩ : ∃ x, x = s[k] := ⟨_, rfl⟩
          rw [← hx] at c0 c1 ok0 hvar hterm hyes HX
          dsimp only at c0 c1 ok0 hvar hterm hyes HX
          have hkl : (k : Int) < (s.length : Int) := by omega
          have hk0 : (0 : Int) ≤ (k : Int) := by omega
          have e1 := appO_yes (s := s) (t := [vT xa]) (by rw [hvar.out]; exact hterm.1)
          rw [hvar.out] at e1
          clear hx hX hsf hM hterm
          go_wp2_with (go_at_call 27; refine vP_spec.mono ?_; rintro e _ ⟨rfl, rfl⟩)
          have hsV : Seq cellE (fun _ => True) ((wr.alloc (.cells #[.int .i64 1, .string ⟨#[]⟩, .int .i64 xa] 41)).alloc (.cells #[.int .i64 1, .string ⟨#[]⟩, .int .i64 xa] 41)) (.slice (some ⟨wr.heap.size + 1, 0, none⟩) 1 1) [vT xa] := seqV trivial (Row.new _ [_, _, _] _ (by simp)) ok0
          refine (ApplyP_spec (Hs.out.at (Seq.way : Below w3.heap.size w3 _)) Rs.out.ne hsV).mono ?_
          rintro e y1 ⟨v1, rfl, hy1, hs1⟩
          rw [e1] at hs1 ⊢
          replace hs1 := hs1.any
          simp only [Option.getD_some] at hs1
          obtain ⟨a1, d1, rfl⟩ := hs1.shape
          have Hx := Lib.hid hs1
          replace hy1 := below_step hy1 (Seq.way : Below wr.heap.size wr _)
          have zy1 := hy1.size
          have lby : b < y1.heap.size := by omega
          have hry := hy1
          have HX1 := Lib.hid (HX.out.at hy1)
          have c1' : y1.cell? ⟨b, off + k * 2 + 1, none⟩ = some (.slice p1 xt.length n1) := (hy1.cell (p := ⟨b, off + k * 2 + 1, none⟩) lb).trans c1
          clear hs1 hsV e1 c0 c1 HX
          by_cases h2 : (putT s xt).length ≤ 200
          · have e2 := appO_yes h2
            go_wp2_with fail
            refine (ApplyP_spec (Hs.out.at ((below_step hry hbr))) Rs.out.ne Hx.out).mono ?_
            rintro e y2 ⟨v2, rfl, hy2, hs2⟩
            rw [e2] at hs2 ⊢
            replace hs2 := hs2.any
            simp only [Option.getD_some] at hs2
            obtain ⟨a2, d2, rfl⟩ := hs2.shape
            have Hy := Lib.hid hs2
            have c1'' : y2.cell? ⟨b, off + k * 2 + 1, none⟩ = some (.slice p1 xt.length n1) := (hy2.cell (p := ⟨b, off + k * 2 + 1, none⟩) lby).trans c1'
            clear hs2 e2 c1'
            go_wp2_with fail
            refine (SameT_spec (Hx.out.at hy2) (HX1.out.at hy2)).mono ?_
            rintro e y3 ⟨rfl, hq3⟩
            rw [decide_eq_true (show xt = xt from rfl)]
            have hy3 := hq3.belowS
            have hy13 := below_step hy3 hy2
            have hr3 := below_step hy13 hry
            clear hq3
            go_wp2_with fail
            refine (SameT_spec (Hx.out.at hy13) (Hy.out.at hy3)).mono ?_
            rintro e y4 ⟨rfl, hq4⟩
            have hr4 := below_step hq4.belowS hr3
            clear hq4
            by_cases h3 : putT s xt = xt
            · rw [decide_eq_true h3.symm]
              have hy' := Lib.hid (hyes.out h3)
              clear h3
              go_wp2_with fail
              go_roundw
              case rel => exact ⟨k + 1, hlt, by go_num, hy', below_step hr4 hbr⟩
              case measure => simp [intOf]; omega
            · rw [decide_eq_false (fun e => h3 e.symm)]
              clear h3
              go_wp2_with fail
              go_ret
              exact ⟨rfl, below_step (below_step hr4 hbr) HB3.out⟩
          · have e2 := appO_none.2 (show 200 < (putT s xt).length by omega)
            go_wp2_with fail
            refine (ApplyP_spec (Hs.out.at ((below_step hry hbr))) Rs.out.ne Hx.out).mono ?_
            rintro e y2 ⟨v2, rfl, hy2, hs2⟩
            rw [e2] at hs2 ⊢
            obtain ⟨a2, d2, rfl⟩ := hs2.shape
            have c1'' : y2.cell? ⟨b, off + k * 2 + 1, none⟩ = some (.slice p1 xt.length n1) := (hy2.cell (p := ⟨b, off + k * 2 + 1, none⟩) lby).trans c1'
            clear hs2 e2 c1'
            go_wp2_with fail
            refine (SameT_spec (Hx.out.at hy2) (HX1.out.at hy2)).mono ?_
            rintro e y3 ⟨rfl, hq3⟩
            rw [decide_eq_true (show xt = xt from rfl)]
            have hy3 := hq3.belowS
            have hr3 := below_step (below_step hy3 hy2) hry
            clear hq3
            go_wp2_with fail
            go_ret
            exact ⟨rfl, below_step (below_step hr3 hbr) HB3.out⟩
        · obtain rfl : k = s.length := by omega
          rw [List.take_length] at hM
          exact (Hno.out hM.out).elim
    · have ci := comp_idem Rs.out hi
      have Hput := Lib.hid (idem_put hi t)
      by_cases h2 : (putT s t).length ≤ 200
      · have e1 := appO_yes h2
        have e2 : appO s (putT s t) = some (putT s t) := by rw [appO_yes (by rw [Hput.out]; exact h2), Hput.out]
        go_wp2_with fail
        refine (ApplyP_spec (Hs.out.at Seq.way) Rs.out.ne (Ht.out.at Seq.way)).mono ?_
        rintro e w4 ⟨v4, rfl, hb, hs⟩
        rw [e1] at hs ⊢
        replace hs := hs.any
        (first | simp only [Option.getD_some] at hs | simp only [Option.getD_none] at hs | skip)
        obtain ⟨a4, c4, rfl⟩ := hs.shape
        replace hb := below_step hb (Seq.way : Below w3.heap.size w3 _)
        replace Hs := Lib.hid (Hs.out.at hb)
        replace Ht := Lib.hid (Ht.out.at hb)
        have HB4 := Lib.hid (below_step hb HB3.out)
        clear hb
        have Hx := Lib.hid hs
        clear hs
        go_wp2_with fail
        refine (ComposeP_spec (Hs.out.at Seq.way) (Hs.out.at Seq.way) Rs.out.ne Rs.out.ne Rs.out.var Rs.out.var (by omega) (by omega)).mono ?_
        rintro e w5 ⟨v5, rfl, hb, hs⟩
        rw [ci] at hs ⊢
        replace hs := hs.any
        (first | simp only [Option.getD_some] at hs | simp only [Option.getD_none] at hs | skip)
        obtain ⟨a5, c5, rfl⟩ := hs.shape
        replace hb := below_step hb (Seq.way : Below w4.heap.size w4 _)
        replace Hs := Lib.hid (Hs.out.at hb)
        replace Ht := Lib.hid (Ht.out.at hb)
        replace Hx := Lib.hid (Hx.out.at hb)
        have HB5 := Lib.hid (below_step hb HB4.out)
        clear hb
        have Hc := Lib.hid hs
        clear hs
        go_wp2_with fail
        refine (ApplyP_spec (Hs.out.at Seq.way) Rs.out.ne (Hx.out.at Seq.way)).mono ?_
        rintro e w6 ⟨v6, rfl, hb, hs⟩
        rw [e2] at hs ⊢
        replace hs := hs.any
        (first | simp only [Option.getD_some] at hs | simp only [Option.getD_none] at hs | skip)
        obtain ⟨a6, c6, rfl⟩ := hs.shape
        replace hb := below_step hb (Seq.way : Below w5.heap.size w5 _)
        replace Hs := Lib.hid (Hs.out.at hb)
        replace Ht := Lib.hid (Ht.out.at hb)
        replace Hx := Lib.hid (Hx.out.at hb)
        replace Hc := Lib.hid (Hc.out.at hb)
        have HB6 := Lib.hid (below_step hb HB5.out)
        clear hb
        have Hy := Lib.hid hs
        clear hs
        go_wp2_with fail
        refine (SameT_spec (Hx.out.at Seq.way) (Hy.out.at Seq.way)).mono ?_
        rintro e w7 ⟨rfl, hq⟩
        have hb := hq.belowS
        clear hq
        rw [decide_eq_true (show putT s t = putT s t from rfl)]
        replace hb := below_step hb (Seq.way : Below w6.heap.size w6 _)
        replace Hs := Lib.hid (Hs.out.at hb)
        replace Ht := Lib.hid (Ht.out.at hb)
        replace Hx := Lib.hid (Hx.out.at hb)
        replace Hc := Lib.hid (Hc.out.at hb)
        replace Hy := Lib.hid (Hy.out.at hb)
        have HB7 := Lib.hid (below_step hb HB6.out)
        clear hb
        go_wp2_with fail
        refine (SameS_spec (Hc.out.at Seq.way) (Hs.out.at Seq.way)).mono ?_
        rintro e w8 ⟨rfl, hq⟩
        have hb := hq.belowS
        clear hq
        rw [decide_eq_true (show s = s from rfl)]
        replace hb := below_step hb (Seq.way : Below w7.heap.size w7 _)
        replace Hs := Lib.hid (Hs.out.at hb)
        replace Ht := Lib.hid (Ht.out.at hb)
        replace Hx := Lib.hid (Hx.out.at hb)
        replace Hc := Lib.hid (Hc.out.at hb)
        replace Hy := Lib.hid (Hy.out.at hb)
        have HB8 := Lib.hid (below_step hb HB7.out)
        clear hb
        go_wp2_with fail
        go_ret
        exact ⟨rfl, HB8.out⟩
      · have e1 := appO_none.2 (show 200 < (putT s t).length by omega)
        go_wp2_with fail
        refine (ApplyP_spec (Hs.out.at Seq.way) Rs.out.ne (Ht.out.at Seq.way)).mono ?_
        rintro e w4 ⟨v4, rfl, hb, hs⟩
        rw [e1] at hs ⊢
        replace hs := hs.any
        (first | simp only [Option.getD_some] at hs | simp only [Option.getD_none] at hs | skip)
        obtain ⟨a4, c4, rfl⟩ := hs.shape
        replace hb := below_step hb (Seq.way : Below w3.heap.size w3 _)
        replace Hs := Lib.hid (Hs.out.at hb)
        replace Ht := Lib.hid (Ht.out.at hb)
        have HB4 := Lib.hid (below_step hb HB3.out)
        clear hb
        have Hx := Lib.hid hs
        clear hs
        go_wp2_with fail
        refine (ComposeP_spec (Hs.out.at Seq.way) (Hs.out.at Seq.way) Rs.out.ne Rs.out.ne Rs.out.var Rs.out.var (by omega) (by omega)).mono ?_
        rintro e w5 ⟨v5, rfl, hb, hs⟩
        rw [ci] at hs ⊢
        replace hs := hs.any
        (first | simp only [Option.getD_some] at hs | simp only [Option.getD_none] at hs | skip)
        obtain ⟨a5, c5, rfl⟩ := hs.shape
        replace hb := below_step hb (Seq.way : Below w4.heap.size w4 _)
        replace Hs := Lib.hid (Hs.out.at hb)
        replace Ht := Lib.hid (Ht.out.at hb)
        replace Hx := Lib.hid (Hx.out.at hb)
        have HB5 := Lib.hid (below_step hb HB4.out)
        clear hb
        have Hc := Lib.hid hs
        clear hs
        go_wp2_with fail
        refine (SameS_spec (Hc.out.at Seq.way) (Hs.out.at Seq.way)).mono ?_
        rintro e w6 ⟨rfl, hq⟩
        have hb := hq.belowS
        clear hq
        rw [decide_eq_true (show s = s from rfl)]
        replace hb := below_step hb (Seq.way : Below w5.heap.size w5 _)
        replace Hs := Lib.hid (Hs.out.at hb)
        replace Ht := Lib.hid (Ht.out.at hb)
        replace Hx := Lib.hid (Hx.out.at hb)
        replace Hc := Lib.hid (Hc.out.at hb)
        have HB6 := Lib.hid (below_step hb HB5.out)
        clear hb
        go_wp2_with fail
        go_ret
        exact ⟨rfl, HB6.out⟩
end Go.Proofs.Ytgfiaddldmmjiaa
