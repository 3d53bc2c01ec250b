/-
  Layer 2: the document's Compose.
-/
import Derived.Test.YtgfiaddldmmjiaaSuE
namespace Go.Proofs.Ytgfiaddldmmjiaa
open Go Go.RowKit

/-- What a variable is bound to behind both. -/
def keptV (v : Int) (t : List Cell) : List Bnd := if isV v t then [] else [⟨v, t⟩]
def stepC (a b : List Bnd) (v : Int) : Option (List Bnd) := match bindS a v with
  | some ta => (appO b ta).map (keptV v)
  | none => match bindS b v with
    | some tb => some (keptV v tb)
    | none => some []
theorem stepC_a {a b : List Bnd} {v : Int} {ta : List Cell} (h : bindS a v = some ta) : stepC a b v = (appO b ta).map (keptV v) := by unfold stepC; rw [h]
theorem stepC_b {a b : List Bnd} {v : Int} {tb : List Cell} (h : bindS a v = none) (h2 : bindS b v = some tb) : stepC a b v = some (keptV v tb) := by unfold stepC; rw [h, h2]
theorem stepC_n {a b : List Bnd} {v : Int} (h : bindS a v = none) (h2 : bindS b v = none) : stepC a b v = some [] := by unfold stepC; rw [h, h2]
theorem keptV_no {v : Int} {t : List Cell} (h : isV v t = false) : keptV v t = [⟨v, t⟩] := by unfold keptV; rw [h]; rfl
theorem keptV_yes {v : Int} {t : List Cell} (h : isV v t = true) : keptV v t = [] := by unfold keptV; rw [h]; rfl
def compTo (a b : List Bnd) : Nat → Option (List Bnd)
  | 0 => some []
  | v + 1 => (compTo a b v).bind fun out => (stepC a b v).map (out ++ ·)
def composeL (a b : List Bnd) : Option (List Bnd) := compTo a b 1000
theorem compTo_succ (a b : List Bnd) (v : Nat) : compTo a b (v + 1) = (compTo a b v).bind fun out => (stepC a b v).map (out ++ ·) := rfl
theorem compTo_none {a b : List Bnd} {v n : Nat} (h : compTo a b v = none) (hn : v ≤ n) : compTo a b n = none := by
  induction n with
  | zero => obtain rfl : v = 0 := by omega
            exact h
  | succ n ih =>
    by_cases e : v = n + 1
    · subst e; exact h
    · rw [compTo_succ, ih (by omega)]; rfl
/-- How far it has come. -/
def CompM (a b : List Bnd) (v : Nat) (L : List Bnd) : Prop := compTo a b v = some L ∧ L.length ≤ v
theorem compM_zero (a b : List Bnd) : CompM a b 0 [] := ⟨rfl, Nat.le_refl _⟩
theorem keptV_len (v : Int) (t : List Cell) : (keptV v t).length ≤ 1 := by unfold keptV; split <;> simp
theorem compM_step {a b : List Bnd} {v : Nat} {L l : List Bnd} (h : CompM a b v L) (hs : stepC a b v = some l) (hl : l.length ≤ 1) : CompM a b (v + 1) (L ++ l) := by
  refine ⟨by rw [compTo_succ, h.1, hs]; rfl, ?_⟩
  rw [List.length_append]; have := h.2; omega
theorem compM_stop {a b : List Bnd} {v : Nat} {L : List Bnd} (h : CompM a b v L) (hs : stepC a b v = none) (hv : v < 1000) : composeL a b = none :=
  compTo_none (v := v + 1) (by rw [compTo_succ, h.1, hs]; rfl) (by omega)

set_option maxHeartbeats 3200000 in
set_option maxRecDepth 100000 in
theorem ComposeR_spec {S T : Nat → Prop} {w : World} {v u : Value} {a b : List Bnd} (ha : Seq bindE S w v a) (hb : Seq bindE T w u b) (hma : ∀ x ∈ a, x.t.length ≤ 300) (hmb : ∀ x ∈ b, x.t.length ≤ 300) :
    Calls Try.prog 20 #[v, u] w (RetL bindE (Fr T w) (composeL a b) w) := by
  have Ha := Lib.hid ha
  have Hb := Lib.hid hb
  have Hma := Lib.hid hma
  have Hmb := Lib.hid hmb
  obtain ⟨aa, ac, rfl, -, -, hal, -, a5⟩ := ha.bnd
  obtain ⟨ba, bc, rfl, -, -, hbl, -, b5⟩ := hb.bnd
  have haf := fun {w' : World} (h : Below w.heap.size w w') => Lib.hid (a5.below h fun _ h _ => h.2 : SeqAt bindE _ w' aa a)
  have hbf := fun {w' : World} (h : Below w.heap.size w w') => Lib.hid (b5.below h fun _ h _ => h.2 : SeqAt bindE _ w' ba b)
  clear a5 b5 ha hb hma hmb
  go_enter Try.func20, Try.ntmps20
  go_wp2_with fail
  go_loopw [6, 7] (fun o i wr => ∃ n : Nat, ∃ L, n ≤ 1000 ∧ i = .int .i64 n ∧ Hid (CompM a b n L) ∧ Own bindE (Fr T w) w.heap.size 44 wr o L ∧ Below w.heap.size w wr) (fun _ i _ => 1000 - (intOf i).toNat)
  case atStart => exact ⟨0, [], Nat.zero_le _, rfl, Lib.hid (compM_zero a b), Own.lit0 rfl (Nat.le_refl _) rfl, Seq.way⟩
  case round =>
    obtain ⟨n, L, hn, rfl, hM, hown, hbel⟩ := hrel
    have hsz : w.heap.size ≤ wr.heap.size := hbel.size
    have HB := Lib.hid hbel
    obtain ⟨oa, oc, rfl, -, -⟩ := hown.shape
    have Hown := Lib.hid hown
    clear hown
    by_cases hlt : n < 1000
    · have hn0 : (n : Int) ≤ 999 := by omega
      have hnI : IntOK (n : Int) := ⟨by omega, by omega⟩
      go_wp2_with fail
      refine (place_spec (n := (n : Int)) (Ha.out.at hbel)).mono ?_
      rintro e _ ⟨rfl, rfl⟩
      go_wp2_with fail
      refine (place_spec (n := (n : Int)) (Hb.out.at hbel)).mono ?_
      rintro e _ ⟨rfl, rfl⟩
      rcases placeS_cases a n with ⟨hp, hba⟩ | ⟨i, hi, hp, -, hba⟩
      · rcases placeS_cases b n with ⟨hq, hbb⟩ | ⟨j, hj, hq, -, hbb⟩
        · have hs := Lib.hid (show CompM a b (n + 1) (L ++ []) from compM_step hM.out (by unfold stepC; rw [hba, hbb]) (by simp))
          rw [hp, hq]
          clear hp hq hba hbb
          go_wp2_with fail
          go_roundw
          case rel => exact ⟨n + 1, L, hlt, by go_num, by rw [List.append_nil] at hs; exact hs, Hown.out, HB.out⟩
          case measure => simp [intOf]; omega
        · obtain ⟨B2, o2, p2, n2, rfl, -, hB2, -, e1, -, hX⟩ := (hbf hbel).out.bnd2 hj
          have HX := Lib.hid hX
          obtain ⟨tb, htb⟩ : ∃ t, t = b[j].t := ⟨_, rfl⟩
          rw [← htb] at e1 HX hbb
          rw [hp, hq]
          have hj0 : (0 : Int) ≤ (j : Int) := by omega
          have hj1 : ¬ (j : Int) < 0 := by omega
          have hj2 : (j : Int) < (b.length : Int) := by omega
          have hbA := Lib.hid hba
          have hbB := Lib.hid hbb
          clear hX htb hp hq hba hbb hj haf hbf
          go_wp2_with fail
          refine (own_spec (n := (n : Int)) (HX.out.at Seq.way)).mono ?_
          rintro e w9 ⟨rfl, hq9⟩
          have hb9 := hq9.below (wr.alloc (.cells #[] 41)).heap.size
          have HB9 := Lib.hid (below_step hb9 (Seq.way : Below w.heap.size w (wr.alloc (.cells #[] 41))))
          have z9 := HB9.out.size
          have zz9 := hb9.size
          (try simp only [World.size_alloc] at zz9)
          cases hv : isV (n : Int) tb
          · have hs := Lib.hid (show CompM a b (n + 1) (L ++ [⟨(n : Int), tb⟩]) from compM_step hM.out (by rw [stepC_b hbA.out hbB.out, keptV_no hv]) (by simp))
            clear hv
            go_wp2_with (at_builtin; refine wpList_app_bindS (y := ⟨(n : Int), tb⟩) rfl _ _ 22 rfl Try.underlying22 infoBindS rfl (((Hown.out.move (Seq.way : Below wr.heap.size wr (wr.alloc (.cells #[] 41)))).move hb9).move Seq.way) rfl hnI ((HX.out.at (Seq.way : Below _ _ (wr.alloc (.cells #[] 41)))).at (Below.trans hb9 Seq.way)) (fun x h _ => ⟨.inl h.1, fun e => by have := (Hown.out.blk e).1; omega⟩) (by go_simp) (by go_simp) (by have := hM.out.2; omega) (by simp; omega) ?_)
            intro ao cap w' hown' hkept
            have H' := Lib.hid hown'
            have K' := Lib.hid (HB9.out.trans (Below.trans Seq.way hkept.below))
            clear hown' hkept
            go_wp2_with fail
            go_roundw
            case rel => exact ⟨n + 1, _, hlt, by go_num, hs, by simpa using H'.out, K'.out⟩
            case measure => simp [intOf]; omega
          · have hs := Lib.hid (show CompM a b (n + 1) (L ++ []) from compM_step hM.out (by rw [stepC_b hbA.out hbB.out, keptV_yes hv]) (by simp))
            clear hv
            go_wp2_with fail
            go_roundw
            case rel => exact ⟨n + 1, L, hlt, by go_num, by rw [List.append_nil] at hs; exact hs, ((Hown.out.move (Seq.way : Below wr.heap.size wr (wr.alloc (.cells #[] 41)))).move hb9).move Seq.way, HB9.out⟩
            case measure => simp [intOf]; omega
      · obtain ⟨B2, o2, p2, n2, rfl, -, hB2, -, e1, -, hX⟩ := (haf hbel).out.bnd2 hi
        have HX := Lib.hid hX
        have hxl := Hma.out _ (List.getElem_mem hi)
        obtain ⟨ta, hta⟩ : ∃ t, t = a[i].t := ⟨_, rfl⟩
        rw [← hta] at e1 HX hba hxl
        obtain ⟨pb, hpb⟩ : ∃ p, p = placeS b n := ⟨_, rfl⟩
        rw [hp, ← hpb]
        have hi0 : (0 : Int) ≤ (i : Int) := by omega
        have hi1 : ¬ (i : Int) < 0 := by omega
        have hi2 : (i : Int) < (a.length : Int) := by omega
        have hbA := Lib.hid hba
        clear hX hta hp hpb hba hi haf hbf
        go_wp2_with fail
        refine (ApplyR_spec (w := wr.alloc (.cells #[] 41)) (Hb.out.at Seq.way) (HX.out.at Seq.way) Hmb.out (by omega)).mono ?_
        rintro e w1 ⟨v1, rfl, hb1, hs1⟩
        have hbr1 := below_step hb1 (Seq.way : Below wr.heap.size wr (wr.alloc (.cells #[] 41)))
        have HB1 := Lib.hid (below_step hbr1 HB.out)
        have z1 := hbr1.size
        have zz1 := hb1.size
        simp at zz1
        cases hap : appO b ta with
        | none =>
          have hr := Lib.hid (show composeL a b = none from compM_stop hM.out (by rw [stepC_a hbA.out, hap]; rfl) hlt)
          rw [hap] at hs1
          obtain ⟨ra, rc, rfl⟩ := hs1.shape
          clear hap hs1
          go_wp2_with fail
          go_ret2
          rw [hr.out]
          exact ⟨_, rfl, HB1.out, Seq.nil _ _ _⟩
        | some t =>
          rw [hap] at hs1
          have hst := Lib.hid (show stepC a b n = some (keptV n t) by rw [stepC_a hbA.out, hap]; rfl)
          replace hs1 : Seq cellE (fun b => wr.heap.size + 1 ≤ b) w1 v1 t := by simpa using hs1
          have HX1 := Lib.hid hs1
          obtain ⟨ra, rc, rfl⟩ := hs1.shape
          clear hap hs1
          go_wp2_with fail
          refine (own_spec (n := (n : Int)) (HX1.out.at Seq.way)).mono ?_
          rintro e w9 ⟨rfl, hq9⟩
          have hb9 := hq9.below w1.heap.size
          have HB9 := Lib.hid (below_step hb9 (Seq.way : Below w.heap.size w w1))
          have z9 := HB9.out.size
          have zz9 := hb9.size
          (try simp only [World.size_alloc] at zz9)
          cases hv : isV (n : Int) t
          · have hs := Lib.hid (show CompM a b (n + 1) (L ++ [⟨(n : Int), t⟩]) from compM_step hM.out (by rw [hst.out, keptV_no hv]) (by simp))
            clear hv
            go_wp2_with (at_builtin; refine wpList_app_bindS (y := ⟨(n : Int), t⟩) rfl _ _ 22 rfl Try.underlying22 infoBindS rfl (((Hown.out.move (Seq.way : Below wr.heap.size wr w1)).move hb9).move Seq.way) rfl hnI ((HX1.out.at (Seq.way : Below _ _ w1)).at (Below.trans hb9 Seq.way)) (fun x h _ => ⟨.inr (by omega), fun e => by have := (Hown.out.blk e).2; omega⟩) (by go_simp) (by go_simp) (by have := hM.out.2; omega) (by simp; omega) ?_)
            intro ao cap w' hown' hkept
            have H' := Lib.hid hown'
            have K' := Lib.hid (HB9.out.trans (Below.trans Seq.way hkept.below))
            clear hown' hkept
            go_wp2_with fail
            go_roundw
            case rel => exact ⟨n + 1, _, hlt, by go_num, hs, by simpa using H'.out, K'.out⟩
            case measure => simp [intOf]; omega
          · have hs := Lib.hid (show CompM a b (n + 1) (L ++ []) from compM_step hM.out (by rw [hst.out, keptV_yes hv]) (by simp))
            clear hv
            go_wp2_with fail
            go_roundw
            case rel => exact ⟨n + 1, L, hlt, by go_num, by rw [List.append_nil] at hs; exact hs, ((Hown.out.move (Seq.way : Below wr.heap.size wr w1)).move hb9).move Seq.way, HB9.out⟩
            case measure => simp [intOf]; omega
    · obtain rfl : n = 1000 := by omega
      have hr := Lib.hid (show composeL a b = some L from hM.out.1)
      have hln := hM.out.2
      go_wp2_with fail
      go_ret2
      rw [hr.out]
      exact ⟨_, rfl, HB.out, Hown.out.seqB (by omega) fun x hx h => h.elim id fun h => .inr (Hown.out.blk h).1⟩
end Go.Proofs.Ytgfiaddldmmjiaa
