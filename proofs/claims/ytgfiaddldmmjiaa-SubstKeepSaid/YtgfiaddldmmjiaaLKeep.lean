/-
  Layer 2: the walk of SubstKeep.
-/
import Derived.Test.YtgfiaddldmmjiaaLIdem
namespace Go.Proofs.Ytgfiaddldmmjiaa
open Go Go.RowKit

theorem bindS_keep (s : List Bnd) (l : List Int) (n : Int) : bindS (keepS s l) n = if n ∈ l then bindS s n else none := by
  unfold keepS fltL
  induction s with
  | nil => unfold bindS; split <;> rfl
  | cons b s ih =>
    have hc : ∀ u : List Bnd, bindS (b :: u) n = if b.var = n then some b.t else bindS u n := fun u => by
      unfold bindS
      rw [List.find?_cons]
      by_cases e : b.var = n
      · simp [e]
      · simp [e]
    rw [List.filter_cons]
    by_cases hb : b.var ∈ l
    · rw [decide_eq_true hb, if_pos rfl, hc, hc, ih]
      by_cases e : b.var = n
      · rw [if_pos e, if_pos (e ▸ hb)]; simp [e]
      · rw [if_neg e]; simp [e]
    · rw [decide_eq_false hb, if_neg (by simp), hc, ih]
      by_cases e : b.var = n
      · rw [if_neg (e ▸ hb)]; simp [e ▸ hb]
      · simp [e]
theorem keep_right {s : List Bnd} (hs : RightS s) (l : List Int) : RightS (keepS s l) := by
  have hm : ∀ x ∈ keepS s l, x ∈ s := fun x hx => (List.mem_filter.1 hx).1
  exact ⟨hs.inc.sublist List.filter_sublist, fun x hx => hs.var x (hm x hx), fun x hx => hs.term x (hm x hx), fun x hx => hs.own x (hm x hx)⟩
/-- The variables that a term has not. -/
def othersL (s : List Bnd) (t : List Cell) : List Int := (fltL (fun b : Bnd => decide (¬ b.var ∈ varsL t)) s).map (·.var)
theorem othersL_mem {s : List Bnd} {t : List Cell} {n : Int} : n ∈ othersL s t ↔ ¬ n ∈ varsL t ∧ ∃ b ∈ s, b.var = n := by
  unfold othersL fltL
  rw [List.mem_map]
  constructor
  · rintro ⟨b, hb, rfl⟩
    obtain ⟨h1, h2⟩ := List.mem_filter.1 hb
    exact ⟨by simpa using h2, b, h1, rfl⟩
  · rintro ⟨h1, b, h2, rfl⟩
    exact ⟨b, List.mem_filter.2 ⟨h2, by simpa using h1⟩, rfl⟩
theorem othersL_yes {s : List Bnd} {t : List Cell} {k : Nat} (hk : k < s.length) (h : ¬ s[k].var ∈ varsL t) : othersL (s.take (k + 1)) t = othersL (s.take k) t ++ [s[k].var] := by
  unfold othersL
  rw [fltL_yes (f := fun b : Bnd => decide (¬ b.var ∈ varsL t)) hk (by simpa using h), List.map_append]; rfl
theorem othersL_no {s : List Bnd} {t : List Cell} {k : Nat} (hk : k < s.length) (h : s[k].var ∈ varsL t) : othersL (s.take (k + 1)) t = othersL (s.take k) t := by
  unfold othersL
  rw [fltL_no (f := fun b : Bnd => decide (¬ b.var ∈ varsL t)) hk (by simpa using h)]
theorem keep_len (s : List Bnd) (t : List Cell) : (keepS s (varsL t)).length + (keepS s (othersL s t)).length = s.length := by
  have h : keepS s (othersL s t) = s.filter fun b => !decide (b.var ∈ varsL t) := by
    unfold keepS fltL
    refine List.filter_congr fun x hx => ?_
    rw [Bool.eq_iff_iff]
    simp only [decide_eq_true_eq, Bool.not_eq_true', decide_eq_false_iff_not]
    rw [othersL_mem]
    exact ⟨fun h => h.1, fun h => ⟨h, x, hx, rfl⟩⟩
  rw [h]
  unfold keepS fltL
  have h2 : ∀ l : List Bnd, (l.filter fun b => decide (b.var ∈ varsL t)).length + (l.filter fun b => !decide (b.var ∈ varsL t)).length = l.length := by
    intro l
    induction l with
    | nil => rfl
    | cons b l ih =>
      rw [List.filter_cons, List.filter_cons]
      by_cases e : b.var ∈ varsL t
      · simp [e] at ih ⊢; omega
      · simp [e] at ih ⊢; omega
  exact h2 s
theorem put_congr {s u : List Bnd} : ∀ {t : List Cell}, (∀ c ∈ t, lookS s c = lookS u c) → putT s t = putT u t
  | [], _ => rfl
  | c :: t, h => by rw [putT_cons, putT_cons, h c (by simp), put_congr (t := t) fun x hx => h x (by simp [hx])]
theorem keep_put (s : List Bnd) (t : List Cell) : putT (keepS s (varsL t)) t = putT s t := by
  refine put_congr fun c hc => ?_
  unfold lookS
  by_cases hk : c.kind = 1
  · rw [if_pos hk, if_pos hk, bindS_keep, if_pos (varsL_mem.2 ⟨c, hc, hk, rfl⟩)]
  · rw [if_neg hk, if_neg hk]
theorem keep_others (s : List Bnd) (t : List Cell) : putT (keepS s (othersL s t)) t = t := by
  have : putT (keepS s (othersL s t)) t = putT [] t := put_congr fun c hc => by
    unfold lookS
    by_cases hk : c.kind = 1
    · rw [if_pos hk, if_pos hk, bindS_keep, if_neg (fun h => (othersL_mem.1 h).1 (varsL_mem.2 ⟨c, hc, hk, rfl⟩))]; rfl
    · rw [if_neg hk, if_neg hk]
  rw [this, putT_nil]
theorem keep_keep (s : List Bnd) (l : List Int) : keepS (keepS s l) l = keepS s l := by unfold keepS fltL; rw [List.filter_filter]; simp
theorem keep_none (s : List Bnd) : keepS s [] = [] := by unfold keepS fltL; rw [List.filter_eq_nil_iff]; simp

set_option maxHeartbeats 3200000 in
set_option maxRecDepth 100000 in
theorem law_keep {S T : Nat → Prop} {w : World} {v u : Value} {s : List Bnd} {t : List Cell} (hh : HeadOK) (hs : Seq bindE S w v s) (ht : Seq cellE T w u t) :
    Calls Try.prog 7 #[v, u] w (RetV (.bool true) w) := by
  have HB0 := Lib.hid (Below.refl w.heap.size w)
  have Hs := Lib.hid hs.any
  have Ht := Lib.hid ht.any
  obtain ⟨sa, sc, rfl⟩ := hs.shape
  obtain ⟨ta, tc, rfl⟩ := ht.shape
  clear hs ht
  go_enter Try.func7, Try.ntmps7
  go_wp2_with fail
  refine (hh (w := w)).mono ?_
  rintro e w1 ⟨rfl, hb⟩
  replace hb := below_step hb (Seq.way : Below w.heap.size w _)
  replace Hs := Lib.hid (Hs.out.at hb)
  replace Ht := Lib.hid (Ht.out.at hb)
  have HB1 := Lib.hid (below_step hb HB0.out)
  clear hb
  go_wp2_with fail
  refine (May_spec (Hs.out.at Seq.way) (Ht.out.at Seq.way)).mono ?_
  rintro e w2 ⟨rfl, hb⟩
  replace hb := below_step hb (Seq.way : Below w1.heap.size w1 _)
  replace Hs := Lib.hid (Hs.out.at hb)
  replace Ht := Lib.hid (Ht.out.at hb)
  have HB2 := Lib.hid (below_step hb HB1.out)
  clear hb
  cases h1 : mayS s t
  · go_wp2_with fail
    go_ret
    exact ⟨rfl, HB2.out⟩
  · obtain ⟨rs, rt, ls, ns⟩ := mayS_iff h1
    have Rs := Lib.hid rs
    have Rt := Lib.hid rt
    have Ls := Lib.hid ls
    have tl := rt.1
    have vl := varsL_len t
    clear rs rt ls h1
    go_wp2_with fail
    refine (VarsR_spec (Ht.out.at Seq.way) (by omega)).mono ?_
    rintro e w3 ⟨v3, rfl, hb, hs⟩
    replace hs := hs.any
    obtain ⟨a3, c3, rfl⟩ := hs.shape
    replace hb := below_step hb (Seq.way : Below w2.heap.size w2 _)
    replace Hs := Lib.hid (Hs.out.at hb)
    replace Ht := Lib.hid (Ht.out.at hb)
    have HB3 := Lib.hid (below_step hb HB2.out)
    clear hb
    have Hv := Lib.hid hs
    clear hs
    have hol : ∀ j, (othersL (s.take j) t).length ≤ 30 := fun j => by
      unfold othersL
      rw [List.length_map]
      have := fltL_len (fun b : Bnd => decide (¬ b.var ∈ varsL t)) (s.take j)
      rw [List.length_take] at this
      omega
    have Hol := Lib.hid hol
    have Rk := Lib.hid (keep_right Rs.out (varsL t))
    have Ro := Lib.hid (keep_right Rs.out (othersL s t))
    have k1 := Lib.hid (keep_len s t)
    have k2 := Lib.hid (keep_put s t)
    have k3 := Lib.hid (keep_others s t)
    have k4 := keep_keep s (varsL t)
    have hsf := fun {w' : World} (h : Below w3.heap.size w3 w') => Lib.hid (Hs.out.sat'.below h fun _ _ h => h : SeqAt bindE _ w' sa s)
    obtain ⟨V, hV⟩ : ∃ V, V = varsL t := ⟨_, rfl⟩
    have HV := Lib.hid hV
    rw [← hV] at Hv k1 k2 k4 vl Rk ⊢
    clear hol hV
    go_wp2_with fail
    go_loopw [7, 8] (fun o i wr => ∃ k : Nat, k ≤ s.length ∧ i = .int .i64 k ∧ Own intE (fun _ => False) w3.heap.size 3 wr o (othersL (s.take k) t) ∧ Below w3.heap.size w3 wr) (fun _ i _ => s.length - (intOf i).toNat)
    case atStart => exact ⟨0, Nat.zero_le _, rfl, Own.lit0 rfl (Nat.le_refl _) rfl, Seq.way⟩
    case round =>
      obtain ⟨k, hk, rfl, hown, hbr⟩ := hrel
      have Hown := Lib.hid hown
      have hzr := hbr.size
      obtain ⟨oa, oc, rfl, -, -⟩ := hown.shape
      have hl1 := Hol.out k
      clear hown
      by_cases hlt : k < s.length
      · obtain ⟨b, off, p1, n1, rfl, -, lb, c0, c1, ok0, -⟩ := (hsf hbr).out.bnd2 hlt
        have hyes := Lib.hid (fun h => othersL_yes (t := t) hlt h)
        have hno := Lib.hid (fun h => othersL_no (t := t) hlt h)
        obtain ⟨x, hx⟩ : ∃ x, x = s[k].var := ⟨_, rfl⟩
        rw [← hx] at c0 ok0 hyes hno
        rw [← HV.out] at hyes hno
        obtain ⟨O, hO⟩ : ∃ O, O = othersL (s.take k) t := ⟨_, rfl⟩
        rw [← hO] at Hown hl1 hyes hno ⊢
        have hkl : (k : Int) < (s.length : Int) := by omega
        have hk0 : (0 : Int) ≤ (k : Int) := by omega
        clear hx hsf c1 hO
        go_wp2_with fail
        refine (InB_spec (n := x) (Hv.out.at hbr)).mono ?_
        rintro e _ ⟨rfl, rfl⟩
        by_cases hi : x ∈ V
        · have h' := Lib.hid (hno.out hi)
          rw [decide_eq_true hi]
          clear hi hyes hno
          go_wp2_with fail
          go_roundw
          case rel => exact ⟨k + 1, hlt, by go_num, by rw [h'.out]; exact Hown.out, hbr⟩
          case measure => simp [intOf]; omega
        · have h' := Lib.hid (hyes.out hi)
          rw [decide_eq_false hi]
          clear hi hyes hno
          go_wp2_with (at_builtin; refine wpList_app_int (wm := wr) rfl _ _ 24 rfl Try.underlying24 infoInt rfl Hown.out rfl (y := x) Seq.way ok0 ?_ ?_ ?_ ?_)
          · go_simp
          · omega
          · exact hzr
          · intro ao cap w' hown' hkept
            have H' := Lib.hid hown'
            have K' := Lib.hid (hbr.trans (Below.trans Seq.way hkept.below))
            clear hown' hkept
            go_wp2_with fail
            go_roundw
            case rel => exact ⟨k + 1, hlt, by go_num, by rw [h'.out]; simpa using H'.out, K'.out⟩
            case measure => simp [intOf]; omega
      · obtain rfl : k = s.length := by omega
        rw [List.take_length] at Hown hl1 ⊢
        have Ho := Lib.hid (Hown.out.seqB (T := fun _ => True) (by omega) fun _ _ _ => trivial)
        have HB4 := Lib.hid (below_step hbr HB3.out)
        replace Hs := Lib.hid (Hs.out.at hbr)
        replace Ht := Lib.hid (Ht.out.at hbr)
        replace Hv := Lib.hid (Hv.out.at hbr)
        obtain ⟨w4, hw4⟩ : ∃ w, w = wr := ⟨_, rfl⟩
        subst hw4
        obtain ⟨O, hO⟩ : ∃ O, O = othersL s t := ⟨_, rfl⟩
        rw [← hO] at Ho hl1 k1 k3 Ro ⊢
        clear hsf hO Hown hbr
        go_wp2_with fail
        refine (KeepP_spec (Hs.out.at Seq.way) (Hv.out.at Seq.way) (by omega)).mono ?_
        rintro e w5 ⟨v5, rfl, hb, hs⟩
        replace hs := hs.any
        obtain ⟨a5, c5, rfl⟩ := hs.shape
        replace hb := below_step hb (Seq.way : Below w4.heap.size w4 _)
        replace Hs := Lib.hid (Hs.out.at hb)
        replace Ht := Lib.hid (Ht.out.at hb)
        replace Hv := Lib.hid (Hv.out.at hb)
        replace Ho := Lib.hid (Ho.out.at hb)
        have HB5 := Lib.hid (below_step hb HB4.out)
        clear hb
        have Hk := Lib.hid hs
        clear hs
        go_wp2_with fail
        refine (KeepP_spec (Hs.out.at Seq.way) (Ho.out.at Seq.way) (by omega)).mono ?_
        rintro e w6 ⟨v6, rfl, hb, hs⟩
        replace hs := hs.any
        obtain ⟨a6, c6, rfl⟩ := hs.shape
        replace hb := below_step hb (Seq.way : Below w5.heap.size w5 _)
        replace Hs := Lib.hid (Hs.out.at hb)
        replace Ht := Lib.hid (Ht.out.at hb)
        replace Hv := Lib.hid (Hv.out.at hb)
        replace Ho := Lib.hid (Ho.out.at hb)
        replace Hk := Lib.hid (Hk.out.at hb)
        have HB6 := Lib.hid (below_step hb HB5.out)
        clear hb
        have Hoo := Lib.hid hs
        clear hs
        have kl := keepS_len s V
        have ol := keepS_len s O
        have k1' : ((keepS s V).length : Int) + ((keepS s O).length : Int) = (s.length : Int) := by have := k1.out; omega
        by_cases h2 : (putT s t).length ≤ 200
        · have e1 := appO_yes h2
          have e2 : appO (keepS s V) t = some (putT s t) := by rw [appO_yes (by rw [k2.out]; exact h2), k2.out]
          have e3 : appO (keepS s O) t = some t := by rw [appO_yes (by rw [k3.out]; exact tl), k3.out]
          go_wp2_with fail
          refine (ApplyP_spec (Hs.out.at Seq.way) Rs.out.ne (Ht.out.at Seq.way)).mono ?_
          rintro e w7 ⟨v7, rfl, hb, hs⟩
          rw [e1] at hs ⊢
          replace hs := hs.any
          (first | simp only [Option.getD_some] at hs | simp only [Option.getD_none] at hs | skip)
          obtain ⟨a7, c7, rfl⟩ := hs.shape
          replace hb := below_step hb (Seq.way : Below w6.heap.size w6 _)
          replace Hs := Lib.hid (Hs.out.at hb)
          replace Ht := Lib.hid (Ht.out.at hb)
          replace Hv := Lib.hid (Hv.out.at hb)
          replace Ho := Lib.hid (Ho.out.at hb)
          replace Hk := Lib.hid (Hk.out.at hb)
          replace Hoo := Lib.hid (Hoo.out.at hb)
          have HB7 := Lib.hid (below_step hb HB6.out)
          clear hb
          have Hx := Lib.hid hs
          clear hs
          go_wp2_with fail
          refine (ApplyP_spec (Hk.out.at Seq.way) Rk.out.ne (Ht.out.at Seq.way)).mono ?_
          rintro e w8 ⟨v8, rfl, hb, hs⟩
          rw [e2] at hs ⊢
          replace hs := hs.any
          (first | simp only [Option.getD_some] at hs | simp only [Option.getD_none] at hs | skip)
          obtain ⟨a8, c8, rfl⟩ := hs.shape
          replace hb := below_step hb (Seq.way : Below w7.heap.size w7 _)
          replace Hs := Lib.hid (Hs.out.at hb)
          replace Ht := Lib.hid (Ht.out.at hb)
          replace Hv := Lib.hid (Hv.out.at hb)
          replace Ho := Lib.hid (Ho.out.at hb)
          replace Hk := Lib.hid (Hk.out.at hb)
          replace Hoo := Lib.hid (Hoo.out.at hb)
          replace Hx := Lib.hid (Hx.out.at hb)
          have HB8 := Lib.hid (below_step hb HB7.out)
          clear hb
          have Hy := Lib.hid hs
          clear hs
          go_wp2_with fail
          refine (ApplyP_spec (Hoo.out.at Seq.way) Ro.out.ne (Ht.out.at Seq.way)).mono ?_
          rintro e w9 ⟨v9, rfl, hb, hs⟩
          rw [e3] at hs ⊢
          replace hs := hs.any
          (first | simp only [Option.getD_some] at hs | simp only [Option.getD_none] at hs | skip)
          obtain ⟨a9, c9, rfl⟩ := hs.shape
          replace hb := below_step hb (Seq.way : Below w8.heap.size w8 _)
          replace Hs := Lib.hid (Hs.out.at hb)
          replace Ht := Lib.hid (Ht.out.at hb)
          replace Hv := Lib.hid (Hv.out.at hb)
          replace Ho := Lib.hid (Ho.out.at hb)
          replace Hk := Lib.hid (Hk.out.at hb)
          replace Hoo := Lib.hid (Hoo.out.at hb)
          replace Hx := Lib.hid (Hx.out.at hb)
          replace Hy := Lib.hid (Hy.out.at hb)
          have HB9 := Lib.hid (below_step hb HB8.out)
          clear hb
          have Hz := Lib.hid hs
          clear hs
          go_wp2_with fail
          refine (RightS02_spec (Hk.out.at Seq.way)).mono ?_
          rintro e w10 ⟨rfl, hb⟩
          rw [rightS_iff.2 Rk.out]
          replace hb := below_step hb (Seq.way : Below w9.heap.size w9 _)
          replace Hs := Lib.hid (Hs.out.at hb)
          replace Ht := Lib.hid (Ht.out.at hb)
          replace Hv := Lib.hid (Hv.out.at hb)
          replace Ho := Lib.hid (Ho.out.at hb)
          replace Hk := Lib.hid (Hk.out.at hb)
          replace Hoo := Lib.hid (Hoo.out.at hb)
          replace Hx := Lib.hid (Hx.out.at hb)
          replace Hy := Lib.hid (Hy.out.at hb)
          replace Hz := Lib.hid (Hz.out.at hb)
          have HB10 := Lib.hid (below_step hb HB9.out)
          clear hb
          go_wp2_with fail
          refine (RightS02_spec (Hoo.out.at Seq.way)).mono ?_
          rintro e w11 ⟨rfl, hb⟩
          rw [rightS_iff.2 Ro.out]
          replace hb := below_step hb (Seq.way : Below w10.heap.size w10 _)
          replace Hs := Lib.hid (Hs.out.at hb)
          replace Ht := Lib.hid (Ht.out.at hb)
          replace Hv := Lib.hid (Hv.out.at hb)
          replace Ho := Lib.hid (Ho.out.at hb)
          replace Hk := Lib.hid (Hk.out.at hb)
          replace Hoo := Lib.hid (Hoo.out.at hb)
          replace Hx := Lib.hid (Hx.out.at hb)
          replace Hy := Lib.hid (Hy.out.at hb)
          replace Hz := Lib.hid (Hz.out.at hb)
          have HB11 := Lib.hid (below_step hb HB10.out)
          clear hb
          go_wp2_with fail
          refine (SameT_spec (Hx.out.at Seq.way) (Hy.out.at Seq.way)).mono ?_
          rintro e w12 ⟨rfl, hq⟩
          have hb := hq.belowS
          clear hq
          rw [decide_eq_true (show putT s t = putT s t from rfl)]
          replace hb := below_step hb (Seq.way : Below w11.heap.size w11 _)
          replace Hs := Lib.hid (Hs.out.at hb)
          replace Ht := Lib.hid (Ht.out.at hb)
          replace Hv := Lib.hid (Hv.out.at hb)
          replace Ho := Lib.hid (Ho.out.at hb)
          replace Hk := Lib.hid (Hk.out.at hb)
          replace Hoo := Lib.hid (Hoo.out.at hb)
          replace Hx := Lib.hid (Hx.out.at hb)
          replace Hy := Lib.hid (Hy.out.at hb)
          replace Hz := Lib.hid (Hz.out.at hb)
          have HB12 := Lib.hid (below_step hb HB11.out)
          clear hb
          go_wp2_with fail
          refine (SameT_spec (Hz.out.at Seq.way) (Ht.out.at Seq.way)).mono ?_
          rintro e w13 ⟨rfl, hq⟩
          have hb := hq.belowS
          clear hq
          rw [decide_eq_true (show t = t from rfl)]
          replace hb := below_step hb (Seq.way : Below w12.heap.size w12 _)
          replace Hs := Lib.hid (Hs.out.at hb)
          replace Ht := Lib.hid (Ht.out.at hb)
          replace Hv := Lib.hid (Hv.out.at hb)
          replace Ho := Lib.hid (Ho.out.at hb)
          replace Hk := Lib.hid (Hk.out.at hb)
          replace Hoo := Lib.hid (Hoo.out.at hb)
          replace Hx := Lib.hid (Hx.out.at hb)
          replace Hy := Lib.hid (Hy.out.at hb)
          replace Hz := Lib.hid (Hz.out.at hb)
          have HB13 := Lib.hid (below_step hb HB12.out)
          clear hb
          go_wp2_with fail
          refine (KeepP_spec (Hk.out.at Seq.way) (Hv.out.at Seq.way) (by omega)).mono ?_
          rintro e w14 ⟨v14, rfl, hb, hs⟩
          rw [k4] at hs
          replace hs := hs.any
          obtain ⟨a14, c14, rfl⟩ := hs.shape
          replace hb := below_step hb (Seq.way : Below w13.heap.size w13 _)
          replace Hs := Lib.hid (Hs.out.at hb)
          replace Ht := Lib.hid (Ht.out.at hb)
          replace Hv := Lib.hid (Hv.out.at hb)
          replace Ho := Lib.hid (Ho.out.at hb)
          replace Hk := Lib.hid (Hk.out.at hb)
          replace Hoo := Lib.hid (Hoo.out.at hb)
          replace Hx := Lib.hid (Hx.out.at hb)
          replace Hy := Lib.hid (Hy.out.at hb)
          replace Hz := Lib.hid (Hz.out.at hb)
          have HB14 := Lib.hid (below_step hb HB13.out)
          clear hb
          have Hkk := Lib.hid hs
          clear hs
          go_wp2_with fail
          refine (SameS_spec (Hkk.out.at Seq.way) (Hk.out.at Seq.way)).mono ?_
          rintro e w15 ⟨rfl, hq⟩
          have hb := hq.belowS
          clear hq
          rw [decide_eq_true (show keepS s V = keepS s V from rfl)]
          replace hb := below_step hb (Seq.way : Below w14.heap.size w14 _)
          replace Hs := Lib.hid (Hs.out.at hb)
          replace Ht := Lib.hid (Ht.out.at hb)
          replace Hv := Lib.hid (Hv.out.at hb)
          replace Ho := Lib.hid (Ho.out.at hb)
          replace Hk := Lib.hid (Hk.out.at hb)
          replace Hoo := Lib.hid (Hoo.out.at hb)
          replace Hx := Lib.hid (Hx.out.at hb)
          replace Hy := Lib.hid (Hy.out.at hb)
          replace Hz := Lib.hid (Hz.out.at hb)
          replace Hkk := Lib.hid (Hkk.out.at hb)
          have HB15 := Lib.hid (below_step hb HB14.out)
          clear hb
          go_wp2_with fail
          refine (KeepP_spec (Hs.out.at Seq.way) (Seq.nil intE (fun _ => True) _) (by omega)).mono ?_
          rintro e w16 ⟨v16, rfl, hb, hs⟩
          rw [keep_none] at hs
          replace hs := hs.any
          obtain ⟨a16, c16, rfl⟩ := hs.shape
          replace hb := below_step hb (Seq.way : Below w15.heap.size w15 _)
          replace Hs := Lib.hid (Hs.out.at hb)
          replace Ht := Lib.hid (Ht.out.at hb)
          replace Hv := Lib.hid (Hv.out.at hb)
          replace Ho := Lib.hid (Ho.out.at hb)
          replace Hk := Lib.hid (Hk.out.at hb)
          replace Hoo := Lib.hid (Hoo.out.at hb)
          replace Hx := Lib.hid (Hx.out.at hb)
          replace Hy := Lib.hid (Hy.out.at hb)
          replace Hz := Lib.hid (Hz.out.at hb)
          replace Hkk := Lib.hid (Hkk.out.at hb)
          have HB16 := Lib.hid (below_step hb HB15.out)
          clear hb
          have Hn := Lib.hid hs
          clear hs
          go_wp2_with fail
          go_ret
          exact ⟨rfl, HB16.out⟩
        · have e1 := appO_none.2 (show 200 < (putT s t).length by omega)
          have e2 : appO (keepS s V) t = none := by rw [appO_none, k2.out]; omega
          have e3 : appO (keepS s O) t = some t := by rw [appO_yes (by rw [k3.out]; exact tl), k3.out]
          go_wp2_with fail
          refine (ApplyP_spec (Hs.out.at Seq.way) Rs.out.ne (Ht.out.at Seq.way)).mono ?_
          rintro e w7 ⟨v7, rfl, hb, hs⟩
          rw [e1] at hs ⊢
          replace hs := hs.any
          (first | simp only [Option.getD_some] at hs | simp only [Option.getD_none] at hs | skip)
          obtain ⟨a7, c7, rfl⟩ := hs.shape
          replace hb := below_step hb (Seq.way : Below w6.heap.size w6 _)
          replace Hs := Lib.hid (Hs.out.at hb)
          replace Ht := Lib.hid (Ht.out.at hb)
          replace Hv := Lib.hid (Hv.out.at hb)
          replace Ho := Lib.hid (Ho.out.at hb)
          replace Hk := Lib.hid (Hk.out.at hb)
          replace Hoo := Lib.hid (Hoo.out.at hb)
          have HB7 := Lib.hid (below_step hb HB6.out)
          clear hb
          have Hx := Lib.hid hs
          clear hs
          go_wp2_with fail
          refine (ApplyP_spec (Hk.out.at Seq.way) Rk.out.ne (Ht.out.at Seq.way)).mono ?_
          rintro e w8 ⟨v8, rfl, hb, hs⟩
          rw [e2] at hs ⊢
          replace hs := hs.any
          (first | simp only [Option.getD_some] at hs | simp only [Option.getD_none] at hs | skip)
          obtain ⟨a8, c8, rfl⟩ := hs.shape
          replace hb := below_step hb (Seq.way : Below w7.heap.size w7 _)
          replace Hs := Lib.hid (Hs.out.at hb)
          replace Ht := Lib.hid (Ht.out.at hb)
          replace Hv := Lib.hid (Hv.out.at hb)
          replace Ho := Lib.hid (Ho.out.at hb)
          replace Hk := Lib.hid (Hk.out.at hb)
          replace Hoo := Lib.hid (Hoo.out.at hb)
          replace Hx := Lib.hid (Hx.out.at hb)
          have HB8 := Lib.hid (below_step hb HB7.out)
          clear hb
          have Hy := Lib.hid hs
          clear hs
          go_wp2_with fail
          refine (ApplyP_spec (Hoo.out.at Seq.way) Ro.out.ne (Ht.out.at Seq.way)).mono ?_
          rintro e w9 ⟨v9, rfl, hb, hs⟩
          rw [e3] at hs ⊢
          replace hs := hs.any
          (first | simp only [Option.getD_some] at hs | simp only [Option.getD_none] at hs | skip)
          obtain ⟨a9, c9, rfl⟩ := hs.shape
          replace hb := below_step hb (Seq.way : Below w8.heap.size w8 _)
          replace Hs := Lib.hid (Hs.out.at hb)
          replace Ht := Lib.hid (Ht.out.at hb)
          replace Hv := Lib.hid (Hv.out.at hb)
          replace Ho := Lib.hid (Ho.out.at hb)
          replace Hk := Lib.hid (Hk.out.at hb)
          replace Hoo := Lib.hid (Hoo.out.at hb)
          replace Hx := Lib.hid (Hx.out.at hb)
          replace Hy := Lib.hid (Hy.out.at hb)
          have HB9 := Lib.hid (below_step hb HB8.out)
          clear hb
          have Hz := Lib.hid hs
          clear hs
          go_wp2_with fail
          refine (RightS02_spec (Hk.out.at Seq.way)).mono ?_
          rintro e w10 ⟨rfl, hb⟩
          rw [rightS_iff.2 Rk.out]
          replace hb := below_step hb (Seq.way : Below w9.heap.size w9 _)
          replace Hs := Lib.hid (Hs.out.at hb)
          replace Ht := Lib.hid (Ht.out.at hb)
          replace Hv := Lib.hid (Hv.out.at hb)
          replace Ho := Lib.hid (Ho.out.at hb)
          replace Hk := Lib.hid (Hk.out.at hb)
          replace Hoo := Lib.hid (Hoo.out.at hb)
          replace Hx := Lib.hid (Hx.out.at hb)
          replace Hy := Lib.hid (Hy.out.at hb)
          replace Hz := Lib.hid (Hz.out.at hb)
          have HB10 := Lib.hid (below_step hb HB9.out)
          clear hb
          go_wp2_with fail
          refine (RightS02_spec (Hoo.out.at Seq.way)).mono ?_
          rintro e w11 ⟨rfl, hb⟩
          rw [rightS_iff.2 Ro.out]
          replace hb := below_step hb (Seq.way : Below w10.heap.size w10 _)
          replace Hs := Lib.hid (Hs.out.at hb)
          replace Ht := Lib.hid (Ht.out.at hb)
          replace Hv := Lib.hid (Hv.out.at hb)
          replace Ho := Lib.hid (Ho.out.at hb)
          replace Hk := Lib.hid (Hk.out.at hb)
          replace Hoo := Lib.hid (Hoo.out.at hb)
          replace Hx := Lib.hid (Hx.out.at hb)
          replace Hy := Lib.hid (Hy.out.at hb)
          replace Hz := Lib.hid (Hz.out.at hb)
          have HB11 := Lib.hid (below_step hb HB10.out)
          clear hb
          go_wp2_with fail
          refine (SameT_spec (Hx.out.at Seq.way) (Hy.out.at Seq.way)).mono ?_
          rintro e w12 ⟨rfl, hq⟩
          have hb := hq.belowS
          clear hq
          rw [decide_eq_true (show ([] : List Cell) = ([] : List Cell) from rfl)]
          replace hb := below_step hb (Seq.way : Below w11.heap.size w11 _)
          replace Hs := Lib.hid (Hs.out.at hb)
          replace Ht := Lib.hid (Ht.out.at hb)
          replace Hv := Lib.hid (Hv.out.at hb)
          replace Ho := Lib.hid (Ho.out.at hb)
          replace Hk := Lib.hid (Hk.out.at hb)
          replace Hoo := Lib.hid (Hoo.out.at hb)
          replace Hx := Lib.hid (Hx.out.at hb)
          replace Hy := Lib.hid (Hy.out.at hb)
          replace Hz := Lib.hid (Hz.out.at hb)
          have HB12 := Lib.hid (below_step hb HB11.out)
          clear hb
          go_wp2_with fail
          refine (SameT_spec (Hz.out.at Seq.way) (Ht.out.at Seq.way)).mono ?_
          rintro e w13 ⟨rfl, hq⟩
          have hb := hq.belowS
          clear hq
          rw [decide_eq_true (show t = t from rfl)]
          replace hb := below_step hb (Seq.way : Below w12.heap.size w12 _)
          replace Hs := Lib.hid (Hs.out.at hb)
          replace Ht := Lib.hid (Ht.out.at hb)
          replace Hv := Lib.hid (Hv.out.at hb)
          replace Ho := Lib.hid (Ho.out.at hb)
          replace Hk := Lib.hid (Hk.out.at hb)
          replace Hoo := Lib.hid (Hoo.out.at hb)
          replace Hx := Lib.hid (Hx.out.at hb)
          replace Hy := Lib.hid (Hy.out.at hb)
          replace Hz := Lib.hid (Hz.out.at hb)
          have HB13 := Lib.hid (below_step hb HB12.out)
          clear hb
          go_wp2_with fail
          refine (KeepP_spec (Hk.out.at Seq.way) (Hv.out.at Seq.way) (by omega)).mono ?_
          rintro e w14 ⟨v14, rfl, hb, hs⟩
          rw [k4] at hs
          replace hs := hs.any
          obtain ⟨a14, c14, rfl⟩ := hs.shape
          replace hb := below_step hb (Seq.way : Below w13.heap.size w13 _)
          replace Hs := Lib.hid (Hs.out.at hb)
          replace Ht := Lib.hid (Ht.out.at hb)
          replace Hv := Lib.hid (Hv.out.at hb)
          replace Ho := Lib.hid (Ho.out.at hb)
          replace Hk := Lib.hid (Hk.out.at hb)
          replace Hoo := Lib.hid (Hoo.out.at hb)
          replace Hx := Lib.hid (Hx.out.at hb)
          replace Hy := Lib.hid (Hy.out.at hb)
          replace Hz := Lib.hid (Hz.out.at hb)
          have HB14 := Lib.hid (below_step hb HB13.out)
          clear hb
          have Hkk := Lib.hid hs
          clear hs
          go_wp2_with fail
          refine (SameS_spec (Hkk.out.at Seq.way) (Hk.out.at Seq.way)).mono ?_
          rintro e w15 ⟨rfl, hq⟩
          have hb := hq.belowS
          clear hq
          rw [decide_eq_true (show keepS s V = keepS s V from rfl)]
          replace hb := below_step hb (Seq.way : Below w14.heap.size w14 _)
          replace Hs := Lib.hid (Hs.out.at hb)
          replace Ht := Lib.hid (Ht.out.at hb)
          replace Hv := Lib.hid (Hv.out.at hb)
          replace Ho := Lib.hid (Ho.out.at hb)
          replace Hk := Lib.hid (Hk.out.at hb)
          replace Hoo := Lib.hid (Hoo.out.at hb)
          replace Hx := Lib.hid (Hx.out.at hb)
          replace Hy := Lib.hid (Hy.out.at hb)
          replace Hz := Lib.hid (Hz.out.at hb)
          replace Hkk := Lib.hid (Hkk.out.at hb)
          have HB15 := Lib.hid (below_step hb HB14.out)
          clear hb
          go_wp2_with fail
          refine (KeepP_spec (Hs.out.at Seq.way) (Seq.nil intE (fun _ => True) _) (by omega)).mono ?_
          rintro e w16 ⟨v16, rfl, hb, hs⟩
          rw [keep_none] at hs
          replace hs := hs.any
          obtain ⟨a16, c16, rfl⟩ := hs.shape
          replace hb := below_step hb (Seq.way : Below w15.heap.size w15 _)
          replace Hs := Lib.hid (Hs.out.at hb)
          replace Ht := Lib.hid (Ht.out.at hb)
          replace Hv := Lib.hid (Hv.out.at hb)
          replace Ho := Lib.hid (Ho.out.at hb)
          replace Hk := Lib.hid (Hk.out.at hb)
          replace Hoo := Lib.hid (Hoo.out.at hb)
          replace Hx := Lib.hid (Hx.out.at hb)
          replace Hy := Lib.hid (Hy.out.at hb)
          replace Hz := Lib.hid (Hz.out.at hb)
          replace Hkk := Lib.hid (Hkk.out.at hb)
          have HB16 := Lib.hid (below_step hb HB15.out)
          clear hb
          have Hn := Lib.hid hs
          clear hs
          go_wp2_with fail
          go_ret
          exact ⟨rfl, HB16.out⟩
end Go.Proofs.Ytgfiaddldmmjiaa
