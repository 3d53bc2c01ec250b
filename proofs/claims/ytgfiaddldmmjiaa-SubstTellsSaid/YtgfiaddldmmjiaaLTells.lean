/-
  Layer 2: the walk of SubstTells.
-/
import Derived.Test.YtgfiaddldmmjiaaLIdem
import Derived.Deep.Cut
import Derived.Deep.DeepCutAuto
import Derived.Test.YtgfiaddldmmjiaaRun
namespace Go.Proofs.Ytgfiaddldmmjiaa
open Go Go.RowKit

/-- A block known whole, moved on. -/
def Bx (T : TypeId) (w : World) (B : Nat) (vs : List Value) : Prop := Row T w B vs
theorem Bx.at {T : TypeId} {w w' : World} {B : Nat} {vs : List Value} (h : Bx T w B vs) (hb : Below w.heap.size w w') : Bx T w' B vs := rowTo (show Row T w B vs from h) hb
theorem Bx.c0 {T : TypeId} {w : World} {B : Nat} {a b : Value} (h : Bx T w B [a, b]) : w.cell? ⟨B, 0, none⟩ = some a := (show Row T w B _ from h).cell (j := 0) (by simp)
theorem Bx.c1 {T : TypeId} {w : World} {B : Nat} {a b : Value} (h : Bx T w B [a, b]) : w.cell? ⟨B, 1, none⟩ = some b := (show Row T w B _ from h).cell (j := 1) (by simp)

set_option maxHeartbeats 6400000 in
set_option maxRecDepth 100000 in
theorem law_tells {S T U V : Nat → Prop} {w : World} {v u z y : Value} {s b : List Bnd} {t : List Cell} {l : List Int} (hh : HeadOK) (hs : Seq bindE S w v s) (hb : Seq bindE T w u b) (ht : Seq cellE U w z t) (hl : Seq intE V w y l) :
    Calls Try.prog 3 #[v, u, .agg #[z, y]] w (RetV (.bool true) w) := by
  have HB0 := Lib.hid (Below.refl w.heap.size w)
  have Hs := Lib.hid hs.any
  have Hb := Lib.hid hb.any
  have Ht := Lib.hid ht.any
  have Hl := Lib.hid hl.any
  obtain ⟨sa, sc, rfl⟩ := hs.shape
  obtain ⟨ba, bc, rfl⟩ := hb.shape
  obtain ⟨ta, tc, rfl⟩ := ht.shape
  obtain ⟨la, lc, rfl⟩ := hl.shape
  clear hs hb ht hl
  go_enter Try.func3, Try.ntmps3
  go_wp2_with fail
  refine (hh (w := w.alloc (.cells #[.slice ta t.length tc, .slice la l.length lc] 26))).mono ?_
  rintro e w1 ⟨rfl, hb⟩
  have Hr := Lib.hid (Bx.at (Row.new w [.slice ta t.length tc, .slice la l.length lc] 26 rfl) hb)
  obtain ⟨B, hB⟩ : ∃ B, B = w.heap.size := ⟨_, rfl⟩
  have hBw : B < w1.heap.size := by have := hb.size; simp at this; omega
  replace hb := below_step hb (Seq.way : Below w.heap.size w _)
  replace Hs := Lib.hid (Hs.out.at hb)
  replace Hb := Lib.hid (Hb.out.at hb)
  replace Ht := Lib.hid (Ht.out.at hb)
  replace Hl := Lib.hid (Hl.out.at hb)
  have HB1 := Lib.hid (below_step hb HB0.out)
  rw [← hB] at Hr ⊢
  clear hb hB HB0
  go_wp2_with fail
  refine (few_spec Hs.out).mono ?_
  rintro e _ ⟨rfl, rfl⟩
  cases h0 : fewS s
  · go_wp2_with fail
    go_ret
    exact ⟨rfl, HB1.out⟩
  · have c1 := Hr.out.c1
    by_cases hl30 : l.length ≤ 30
    · have hg : ¬ (30 : Int) < (l.length : Int) := by omega
      have hg' : decide ((30 : Int) < (l.length : Int)) = false := decide_eq_false hg
      go_wp2_with fail
      refine (RightS02_spec (Hs.out.at Seq.way)).mono ?_
      rintro e w2 ⟨rfl, hb⟩
      replace hb := below_step hb (Seq.way : Below w1.heap.size w1 _)
      replace Hs := Lib.hid (Hs.out.at hb)
      replace Hb := Lib.hid (Hb.out.at hb)
      replace Ht := Lib.hid (Ht.out.at hb)
      replace Hl := Lib.hid (Hl.out.at hb)
      replace Hr := Lib.hid (Hr.out.at hb)
      have HB2 := Lib.hid (below_step hb HB1.out)
      clear hb
      clear c1
      go_wp2_with fail
      refine (RightS_spec (Hs.out.at Seq.way)).mono ?_
      rintro e w3 ⟨rfl, hb⟩
      replace hb := below_step hb (Seq.way : Below w2.heap.size w2 _)
      replace Hs := Lib.hid (Hs.out.at hb)
      replace Hb := Lib.hid (Hb.out.at hb)
      replace Ht := Lib.hid (Ht.out.at hb)
      replace Hl := Lib.hid (Hl.out.at hb)
      replace Hr := Lib.hid (Hr.out.at hb)
      have HB3 := Lib.hid (below_step hb HB2.out)
      clear hb
      obtain ⟨r0, hr0⟩ : ∃ r, r = rightS s := ⟨_, rfl⟩
      rw [← hr0]
      have hne : (r0 != r0) = false := by simp
      clear hr0
      have c0 := Hr.out.c0
      go_wp2_with fail
      refine (May_spec (Hs.out.at Seq.way) (Ht.out.at Seq.way)).mono ?_
      rintro e w4 ⟨rfl, hb⟩
      replace hb := below_step hb (Seq.way : Below w3.heap.size w3 _)
      replace Hs := Lib.hid (Hs.out.at hb)
      replace Hb := Lib.hid (Hb.out.at hb)
      replace Ht := Lib.hid (Ht.out.at hb)
      replace Hl := Lib.hid (Hl.out.at hb)
      replace Hr := Lib.hid (Hr.out.at hb)
      have HB4 := Lib.hid (below_step hb HB3.out)
      clear hb
      clear c0 hne
      cases h1 : mayS s t
      · go_wp2_with fail
        go_ret
        exact ⟨rfl, HB4.out⟩
      · have c0 := Hr.out.c0
        go_wp2_with fail
        refine (May_spec (Hb.out.at Seq.way) (Ht.out.at Seq.way)).mono ?_
        rintro e w5 ⟨rfl, hb⟩
        replace hb := below_step hb (Seq.way : Below w4.heap.size w4 _)
        replace Hs := Lib.hid (Hs.out.at hb)
        replace Hb := Lib.hid (Hb.out.at hb)
        replace Ht := Lib.hid (Ht.out.at hb)
        replace Hl := Lib.hid (Hl.out.at hb)
        replace Hr := Lib.hid (Hr.out.at hb)
        have HB5 := Lib.hid (below_step hb HB4.out)
        clear hb
        clear c0
        cases h2 : mayS b t
        · go_wp2_with fail
          go_ret
          exact ⟨rfl, HB5.out⟩
        · obtain ⟨rs, rt, ls, ns⟩ := mayS_iff h1
          obtain ⟨rb, -, lb, nb⟩ := mayS_iff h2
          have Rs := Lib.hid rs
          have Rt := Lib.hid rt
          have Rb := Lib.hid rb
          have Ls := Lib.hid ls
          have Lb := Lib.hid lb
          have tl := rt.1
          clear rs rt ls rb lb h1 h2
          have c0 := Hr.out.c0
          go_wp2_with fail
          refine (ApplyP_spec (Hs.out.at Seq.way) Rs.out.ne (Ht.out.at Seq.way)).mono ?_
          rintro e w6 ⟨v6, rfl, hb, hs⟩
          replace hs := hs.any
          obtain ⟨a6, c16, rfl⟩ := hs.shape
          replace hb := below_step hb (Seq.way : Below w5.heap.size w5 _)
          replace Hs := Lib.hid (Hs.out.at hb)
          replace Hb := Lib.hid (Hb.out.at hb)
          replace Ht := Lib.hid (Ht.out.at hb)
          replace Hl := Lib.hid (Hl.out.at hb)
          replace Hr := Lib.hid (Hr.out.at hb)
          have HB6 := Lib.hid (below_step hb HB5.out)
          clear hb
          clear c0
          have Hx1 := Lib.hid hs
          clear hs
          have c0 := Hr.out.c0
          go_wp2_with fail
          refine (ApplyR_spec (Hs.out.at Seq.way) (Ht.out.at Seq.way) Ls.out (by omega)).mono ?_
          rintro e w7 ⟨v7, rfl, hb, hs⟩
          replace hs := hs.any
          obtain ⟨a7, c17, rfl⟩ := hs.shape
          replace hb := below_step hb (Seq.way : Below w6.heap.size w6 _)
          replace Hs := Lib.hid (Hs.out.at hb)
          replace Hb := Lib.hid (Hb.out.at hb)
          replace Ht := Lib.hid (Ht.out.at hb)
          replace Hl := Lib.hid (Hl.out.at hb)
          replace Hr := Lib.hid (Hr.out.at hb)
          replace Hx1 := Lib.hid (Hx1.out.at hb)
          have HB7 := Lib.hid (below_step hb HB6.out)
          clear hb
          clear c0
          have Hx2 := Lib.hid hs
          clear hs
          skip
          skip
          go_wp2_with fail
          refine (ComposeP_spec (Hs.out.at Seq.way) (Hb.out.at Seq.way) Rs.out.ne Rb.out.ne Rs.out.var Rb.out.var (by omega) (by omega)).mono ?_
          rintro e w8 ⟨v8, rfl, hb, hs⟩
          replace hs := hs.any
          obtain ⟨a8, c18, rfl⟩ := hs.shape
          replace hb := below_step hb (Seq.way : Below w7.heap.size w7 _)
          replace Hs := Lib.hid (Hs.out.at hb)
          replace Hb := Lib.hid (Hb.out.at hb)
          replace Ht := Lib.hid (Ht.out.at hb)
          replace Hl := Lib.hid (Hl.out.at hb)
          replace Hr := Lib.hid (Hr.out.at hb)
          replace Hx1 := Lib.hid (Hx1.out.at hb)
          replace Hx2 := Lib.hid (Hx2.out.at hb)
          have HB8 := Lib.hid (below_step hb HB7.out)
          clear hb
          have Hy1 := Lib.hid hs
          clear hs
          skip
          go_wp2_with fail
          refine (ComposeR_spec (Hs.out.at Seq.way) (Hb.out.at Seq.way) Ls.out Lb.out).mono ?_
          rintro e w9 ⟨v9, rfl, hb, hs⟩
          replace hs := hs.any
          obtain ⟨a9, c19, rfl⟩ := hs.shape
          replace hb := below_step hb (Seq.way : Below w8.heap.size w8 _)
          replace Hs := Lib.hid (Hs.out.at hb)
          replace Hb := Lib.hid (Hb.out.at hb)
          replace Ht := Lib.hid (Ht.out.at hb)
          replace Hl := Lib.hid (Hl.out.at hb)
          replace Hr := Lib.hid (Hr.out.at hb)
          replace Hx1 := Lib.hid (Hx1.out.at hb)
          replace Hx2 := Lib.hid (Hx2.out.at hb)
          replace Hy1 := Lib.hid (Hy1.out.at hb)
          have HB9 := Lib.hid (below_step hb HB8.out)
          clear hb
          have Hy2 := Lib.hid hs
          clear hs
          obtain ⟨X, hX⟩ : ∃ X, X = (appO s t).getD [] := ⟨_, rfl⟩
          obtain ⟨xi, hxi⟩ : ∃ xi, xi = (appO s t).isSome := ⟨_, rfl⟩
          obtain ⟨Y, hY⟩ : ∃ Y, Y = (composeL s b).getD [] := ⟨_, rfl⟩
          obtain ⟨yi, hyi⟩ : ∃ yi, yi = (composeL s b).isSome := ⟨_, rfl⟩
          rw [← hX] at Hx1 Hx2 ⊢
          rw [← hxi]
          rw [← hY] at Hy1 Hy2 ⊢
          rw [← hyi]
          clear hX hxi hY hyi
          have HRr := Lib.hid Hr.out
          have HK := fun {W : World} (h : Below w9.heap.size w9 W) => Lib.hid (show W.cell? ⟨B, 1, none⟩ = some (.slice la l.length lc) from (HRr.out.at h).c1)
          clear Hr
          go_upto_region 12 with fail
          (try simp only [List.append_eq, List.cons_append, List.nil_append])
          refine wp_region_noPanic ?_
          refine wp_region_held_drew (S := fun w' => w'.cell? ⟨B, 1, none⟩ = some (.slice la l.length lc)) (by kernel_rfl) ?_ (fun hHeld => ?_)
          · exact (HK (Below.drew (Below.refl _ _))).out
          refine wpAnyH_take1 (i := 0) (oi := _) (v := ?_) (by kernel_rfl) rfl (by kernel_rfl) (fun _ _ _ h => h) (Or.inl ⟨by rfl, ?_⟩) (by assumption) ?_
          rotate_left 1
          · intro w hSw; (try dsimp only at hSw); go_simp; (with_reducible rfl)
          (try simp only [Act.put, List.getElem_toArray, List.getElem_cons_zero, List.setIfInBounds_toArray, List.set_cons_zero, List.set_cons_succ])
          refine wpAnyH_take1 (i := 1) (oi := _) (v := ?_) (by kernel_rfl) rfl (by kernel_rfl) (fun _ _ _ h => h) (Or.inl ⟨by rfl, ?_⟩) (by assumption) ?_
          rotate_left 1
          · intro w hSw; (try dsimp only at hSw); go_simp; (with_reducible rfl)
          (try simp only [Act.put, List.getElem_toArray, List.getElem_cons_zero, List.getElem_cons_succ, List.setIfInBounds_toArray, List.set_cons_zero, List.set_cons_succ])
          refine wpAnyH_one (i := 2) (by kernel_rfl) rfl (by rfl) fun K hK => ?_
          go_simp
          refine (SameT_spec (Hx1.out.at Seq.way) (Hx2.out.at Seq.way)).mono ?_
          rintro e y1 ⟨rfl, hq⟩
          have hy1 := hq.belowS
          clear hq
          rw [decide_eq_true (show X = X from rfl)]
          have HY1 := below_step hy1 (Seq.way : Below w9.heap.size w9 _)
          have zy1 := HY1.size
          (try dsimp only)
          clear hHeld
          refine hK.out _ _ (HK HY1).out fun hHeld => ?_
          clear hK K
          (try simp only [Act.put, List.getElem_toArray, List.getElem_cons_zero, List.getElem_cons_succ, List.setIfInBounds_toArray, List.set_cons_zero, List.set_cons_succ])
          refine wpAnyH_take1 (i := 3) (oi := _) (v := ?_) (by kernel_rfl) rfl (by kernel_rfl) (fun _ _ _ h => h) (Or.inl ⟨by rfl, ?_⟩) (by assumption) ?_
          rotate_left 1
          · intro w hSw; (try dsimp only at hSw); go_simp; (with_reducible rfl)
          (try simp only [Act.put, List.getElem_toArray, List.getElem_cons_zero, List.getElem_cons_succ, List.setIfInBounds_toArray, List.set_cons_zero, List.set_cons_succ])
          refine wpAnyH_take1 (i := 4) (oi := _) (v := ?_) (by kernel_rfl) rfl (by kernel_rfl) (fun _ _ _ h => h) (Or.inl ⟨by rfl, ?_⟩) (by assumption) ?_
          rotate_left 1
          · intro w hSw; (try dsimp only at hSw); go_simp; (with_reducible rfl)
          (try simp only [Act.put, List.getElem_toArray, List.getElem_cons_zero, List.getElem_cons_succ, List.setIfInBounds_toArray, List.set_cons_zero, List.set_cons_succ])
          refine wpAnyH_take1 (i := 5) (oi := _) (v := ?_) (by kernel_rfl) rfl (by kernel_rfl) (fun _ _ _ h => h) (Or.inl ⟨by rfl, ?_⟩) (by assumption) ?_
          rotate_left 1
          · intro w hSw; (try dsimp only at hSw); go_simp; (with_reducible rfl)
          (try simp only [Act.put, List.getElem_toArray, List.getElem_cons_zero, List.getElem_cons_succ, List.setIfInBounds_toArray, List.set_cons_zero, List.set_cons_succ])
          refine wpAnyH_take1 (i := 6) (oi := _) (v := ?_) (by kernel_rfl) rfl (by kernel_rfl) (fun _ _ _ h => h) (Or.inl ⟨by rfl, ?_⟩) (by assumption) ?_
          rotate_left 1
          · intro w hSw; (try dsimp only at hSw); go_simp; (with_reducible rfl)
          (try simp only [Act.put, List.getElem_toArray, List.getElem_cons_zero, List.getElem_cons_succ, List.setIfInBounds_toArray, List.set_cons_zero, List.set_cons_succ])
          refine wpAnyH_take1 (i := 7) (oi := _) (v := ?_) (by kernel_rfl) rfl (by kernel_rfl) (fun _ _ _ h => h) (Or.inl ⟨by rfl, ?_⟩) (by assumption) ?_
          rotate_left 1
          · intro w hSw; (try dsimp only at hSw); go_simp; (with_reducible rfl)
          (try simp only [Act.put, List.getElem_toArray, List.getElem_cons_zero, List.getElem_cons_succ, List.setIfInBounds_toArray, List.set_cons_zero, List.set_cons_succ])
          refine wpAnyH_take1 (i := 8) (oi := _) (v := ?_) (by kernel_rfl) rfl (by kernel_rfl) (fun _ _ _ h => h) (Or.inl ⟨by rfl, ?_⟩) (by assumption) ?_
          rotate_left 1
          · intro w hSw; (try dsimp only at hSw); go_simp; (with_reducible rfl)
          (try simp only [Act.put, List.getElem_toArray, List.getElem_cons_zero, List.getElem_cons_succ, List.setIfInBounds_toArray, List.set_cons_zero, List.set_cons_succ])
          refine wpAnyH_take1 (i := 9) (oi := _) (v := ?_) (by kernel_rfl) rfl (by kernel_rfl) (fun _ _ _ h => h) (Or.inl ⟨by rfl, ?_⟩) (by assumption) ?_
          rotate_left 1
          · intro w hSw; (try dsimp only at hSw); go_simp; (with_reducible rfl)
          (try simp only [Act.put, List.getElem_toArray, List.getElem_cons_zero, List.getElem_cons_succ, List.setIfInBounds_toArray, List.set_cons_zero, List.set_cons_succ])
          refine wpAnyH_take1 (i := 10) (oi := _) (v := ?_) (by kernel_rfl) rfl (by kernel_rfl) (fun _ _ _ h => h) (Or.inl ⟨by rfl, ?_⟩) (by assumption) ?_
          rotate_left 1
          · intro w hSw; (try dsimp only at hSw); go_simp; (with_reducible rfl)
          (try simp only [Act.put, List.getElem_toArray, List.getElem_cons_zero, List.getElem_cons_succ, List.setIfInBounds_toArray, List.set_cons_zero, List.set_cons_succ])
          refine wpAnyH_one (i := 11) (by kernel_rfl) rfl (by rfl) fun K hK => ?_
          go_simp
          refine (SameS_spec (Hy1.out.at Seq.way) (Hy2.out.at Seq.way)).mono ?_
          rintro e y2 ⟨rfl, hq⟩
          have hy2 := hq.belowS
          clear hq
          rw [decide_eq_true (show Y = Y from rfl)]
          have HY2 := below_step hy2 (Seq.way : Below w9.heap.size w9 _)
          have zy2 := HY2.size
          (try dsimp only)
          clear hHeld
          refine hK.out _ _ (HK HY2).out fun hHeld => ?_
          clear hK K
          (try simp only [Act.put, List.getElem_toArray, List.getElem_cons_zero, List.getElem_cons_succ, List.setIfInBounds_toArray, List.set_cons_zero, List.set_cons_succ])
          refine wpAnyH_take1 (i := 12) (oi := _) (v := ?_) (by kernel_rfl) rfl (by kernel_rfl) (fun _ _ _ h => h) (Or.inl ⟨by rfl, ?_⟩) (by assumption) ?_
          rotate_left 1
          · intro w hSw; (try dsimp only at hSw); go_simp; (with_reducible rfl)
          (try simp only [Act.put, List.getElem_toArray, List.getElem_cons_zero, List.getElem_cons_succ, List.setIfInBounds_toArray, List.set_cons_zero, List.set_cons_succ])
          refine wpAnyH_take1 (i := 13) (oi := _) (v := ?_) (by kernel_rfl) rfl (by kernel_rfl) (fun _ _ _ h => h) (Or.inl ⟨by rfl, ?_⟩) (by assumption) ?_
          rotate_left 1
          · intro w hSw; (try dsimp only at hSw); go_simp; (with_reducible rfl)
          (try simp only [Act.put, List.getElem_toArray, List.getElem_cons_zero, List.getElem_cons_succ, List.setIfInBounds_toArray, List.set_cons_zero, List.set_cons_succ])
          refine wpAnyH_take1 (i := 14) (oi := _) (v := ?_) (by kernel_rfl) rfl (by kernel_rfl) (fun _ _ _ h => h) (Or.inl ⟨by rfl, ?_⟩) (by assumption) ?_
          rotate_left 1
          · intro w hSw; (try dsimp only at hSw); go_simp; (with_reducible rfl)
          (try simp only [Act.put, List.getElem_toArray, List.getElem_cons_zero, List.getElem_cons_succ, List.setIfInBounds_toArray, List.set_cons_zero, List.set_cons_succ])
          refine wpAnyH_take1 (i := 15) (oi := _) (v := ?_) (by kernel_rfl) rfl (by kernel_rfl) (fun _ _ _ h => h) (Or.inl ⟨by rfl, ?_⟩) (by assumption) ?_
          rotate_left 1
          · intro w hSw; (try dsimp only at hSw); go_simp; (with_reducible rfl)
          (try simp only [Act.put, List.getElem_toArray, List.getElem_cons_zero, List.getElem_cons_succ, List.setIfInBounds_toArray, List.set_cons_zero, List.set_cons_succ])
          refine wpAnyH_take1 (i := 16) (oi := _) (v := ?_) (by kernel_rfl) rfl (by kernel_rfl) (fun _ _ _ h => h) (Or.inl ⟨by rfl, ?_⟩) (by assumption) ?_
          rotate_left 1
          · intro w hSw; (try dsimp only at hSw); go_simp; (with_reducible rfl)
          (try simp only [Act.put, List.getElem_toArray, List.getElem_cons_zero, List.getElem_cons_succ, List.setIfInBounds_toArray, List.set_cons_zero, List.set_cons_succ])
          refine wpAnyH_take1 (i := 17) (oi := _) (v := ?_) (by kernel_rfl) rfl (by kernel_rfl) (fun _ _ _ h => h) (Or.inl ⟨by rfl, ?_⟩) (by assumption) ?_
          rotate_left 1
          · intro w hSw; (try dsimp only at hSw); go_simp; (with_reducible rfl)
          (try simp only [Act.put, List.getElem_toArray, List.getElem_cons_zero, List.getElem_cons_succ, List.setIfInBounds_toArray, List.set_cons_zero, List.set_cons_succ])
          refine wpAnyH_take1 (i := 18) (oi := _) (v := ?_) (by kernel_rfl) rfl (by kernel_rfl) (fun _ _ _ h => h) (Or.inl ⟨by rfl, ?_⟩) (by assumption) ?_
          rotate_left 1
          · intro w hSw; (try dsimp only at hSw); go_simp; (with_reducible rfl)
          (try simp only [Act.put, List.getElem_toArray, List.getElem_cons_zero, List.getElem_cons_succ, List.setIfInBounds_toArray, List.set_cons_zero, List.set_cons_succ])
          refine wpAnyH_take1 (i := 19) (oi := _) (v := ?_) (by kernel_rfl) rfl (by kernel_rfl) (fun _ _ _ h => h) (Or.inl ⟨by rfl, ?_⟩) (by assumption) ?_
          rotate_left 1
          · intro w hSw; (try dsimp only at hSw); go_simp; (with_reducible rfl)
          (try simp only [Act.put, List.getElem_toArray, List.getElem_cons_zero, List.getElem_cons_succ, List.setIfInBounds_toArray, List.set_cons_zero, List.set_cons_succ])
          refine wpAnyH_take1 (i := 20) (oi := _) (v := ?_) (by kernel_rfl) rfl (by kernel_rfl) (fun _ _ _ h => h) (Or.inl ⟨by rfl, ?_⟩) (by assumption) ?_
          rotate_left 1
          · intro w hSw; (try dsimp only at hSw); go_simp; (with_reducible rfl)
          (try simp only [Act.put, List.getElem_toArray, List.getElem_cons_zero, List.getElem_cons_succ, List.setIfInBounds_toArray, List.set_cons_zero, List.set_cons_succ])
          refine wpAnyH_take1 (i := 21) (oi := _) (v := ?_) (by kernel_rfl) rfl (by kernel_rfl) (fun _ _ _ h => h) (Or.inl ⟨by rfl, ?_⟩) (by assumption) ?_
          rotate_left 1
          · intro w hSw; (try dsimp only at hSw); go_simp; (with_reducible rfl)
          (try simp only [Act.put, List.getElem_toArray, List.getElem_cons_zero, List.getElem_cons_succ, List.setIfInBounds_toArray, List.set_cons_zero, List.set_cons_succ])
          refine wpAnyH_take1 (i := 23) (oi := _) (v := ?_) (by kernel_rfl) rfl (by kernel_rfl) (fun _ _ _ h => h) (Or.inl ⟨by rfl, ?_⟩) (by assumption) ?_
          rotate_left 1
          · intro w hSw; (try dsimp only at hSw); go_simp; (with_reducible rfl)
          (try simp only [Act.put, List.getElem_toArray, List.getElem_cons_zero, List.getElem_cons_succ, List.setIfInBounds_toArray, List.set_cons_zero, List.set_cons_succ])
          refine wpAnyH_take1 (i := 24) (oi := _) (v := ?_) (by kernel_rfl) rfl (by kernel_rfl) (fun _ _ _ h => h) (Or.inl ⟨by rfl, ?_⟩) (by assumption) ?_
          rotate_left 1
          · intro w hSw; (try dsimp only at hSw); go_simp; (with_reducible rfl)
          (try simp only [Act.put, List.getElem_toArray, List.getElem_cons_zero, List.getElem_cons_succ, List.setIfInBounds_toArray, List.set_cons_zero, List.set_cons_succ])
          refine wpAnyH_take1 (i := 25) (oi := _) (v := ?_) (by kernel_rfl) rfl (by kernel_rfl) (fun _ _ _ h => h) (Or.inl ⟨by rfl, ?_⟩) (by assumption) ?_
          rotate_left 1
          · intro w hSw; (try dsimp only at hSw); go_simp; (with_reducible rfl)
          (try simp only [Act.put, List.getElem_toArray, List.getElem_cons_zero, List.getElem_cons_succ, List.setIfInBounds_toArray, List.set_cons_zero, List.set_cons_succ])
          refine wpAnyH_one (i := 22) (by kernel_rfl) rfl (by rfl) fun K hK => ?_
          go_simp
          refine (KeepP_spec (Hs.out.at Seq.way) (Hl.out.at Seq.way) (by omega)).mono ?_
          rintro e y3 ⟨k1, rfl, hy3, hk1⟩
          have HY3 := below_step hy3 (Seq.way : Below w9.heap.size w9 _)
          have zy3 := HY3.size
          (try dsimp only)
          clear hHeld
          refine hK.out _ _ (HK HY3).out fun hHeld => ?_
          clear hK K
          (try simp only [Act.put, List.getElem_toArray, List.getElem_cons_zero, List.getElem_cons_succ, List.setIfInBounds_toArray, List.set_cons_zero, List.set_cons_succ])
          refine wpAnyH_one (i := 26) (by kernel_rfl) rfl (by rfl) fun K hK => ?_
          go_simp
          refine (KeepR_spec (Hs.out.at Seq.way) (Hl.out.at Seq.way) (by omega)).mono ?_
          rintro e y4 ⟨k2, rfl, hy4, hk2⟩
          have hk1' := hk1.at (below_step hy4 (Seq.way : Below y3.heap.size y3 _))
          obtain ⟨ka, kc, rfl⟩ := hk1.shape
          obtain ⟨kb, kd, rfl⟩ := hk2.shape
          have HY4 := below_step hy4 (Seq.way : Below w9.heap.size w9 _)
          have zy4 := HY4.size
          (try dsimp only)
          clear hHeld
          refine hK.out _ _ (HK HY4).out fun hHeld => ?_
          clear hK K
          (try simp only [Act.put, List.getElem_toArray, List.getElem_cons_zero, List.getElem_cons_succ, List.setIfInBounds_toArray, List.set_cons_zero, List.set_cons_succ])
          refine wpAnyH_one (i := 27) (by kernel_rfl) rfl (by rfl) fun K hK => ?_
          go_simp
          refine (SameS_spec (hk1'.at Seq.way) (hk2.at Seq.way)).mono ?_
          rintro e y5 ⟨rfl, hq⟩
          have hy5 := hq.belowS
          clear hq
          rw [decide_eq_true (show keepS s l = keepS s l from rfl)]
          have HY5 := below_step hy5 (Seq.way : Below w9.heap.size w9 _)
          have zy5 := HY5.size
          (try dsimp only)
          clear hHeld
          refine hK.out _ _ (HK HY5).out fun hHeld => ?_
          clear hK K
          (try simp only [Act.put, List.getElem_toArray, List.getElem_cons_zero, List.getElem_cons_succ, List.setIfInBounds_toArray, List.set_cons_zero, List.set_cons_succ])
          refine wpAnyH_take1 (i := 28) (oi := _) (v := ?_) (by kernel_rfl) rfl (by kernel_rfl) (fun _ _ _ h => h) (Or.inl ⟨by rfl, ?_⟩) (by assumption) ?_
          rotate_left 1
          · intro w hSw; (try dsimp only at hSw); go_simp; (with_reducible rfl)
          (try simp only [Act.put, List.getElem_toArray, List.getElem_cons_zero, List.getElem_cons_succ, List.setIfInBounds_toArray, List.set_cons_zero, List.set_cons_succ])
          refine wpAnyH_take1 (i := 29) (oi := _) (v := ?_) (by kernel_rfl) rfl (by kernel_rfl) (fun _ _ _ h => h) (Or.inl ⟨by rfl, ?_⟩) (by assumption) ?_
          rotate_left 1
          · intro w hSw; (try dsimp only at hSw); go_simp; (with_reducible rfl)
          (try simp only [Act.put, List.getElem_toArray, List.getElem_cons_zero, List.getElem_cons_succ, List.setIfInBounds_toArray, List.set_cons_zero, List.set_cons_succ])
          refine wpAnyH_take1 (i := 30) (oi := _) (v := ?_) (by kernel_rfl) rfl (by kernel_rfl) (fun _ _ _ h => h) (Or.inl ⟨by rfl, ?_⟩) (by assumption) ?_
          rotate_left 1
          · intro w hSw; (try dsimp only at hSw); go_simp; (with_reducible rfl)
          (try simp only [Act.put, List.getElem_toArray, List.getElem_cons_zero, List.getElem_cons_succ, List.setIfInBounds_toArray, List.set_cons_zero, List.set_cons_succ])
          refine wpAnyH_take1 (i := 32) (oi := _) (v := ?_) (by kernel_rfl) rfl (by kernel_rfl) (fun _ _ _ h => h) (Or.inl ⟨by rfl, ?_⟩) (by assumption) ?_
          rotate_left 1
          · intro w hSw; (try dsimp only at hSw); go_simp; (with_reducible rfl)
          (try simp only [Act.put, List.getElem_toArray, List.getElem_cons_zero, List.getElem_cons_succ, List.setIfInBounds_toArray, List.set_cons_zero, List.set_cons_succ])
          refine wpAnyH_one (i := 31) (by kernel_rfl) rfl (by rfl) fun K hK => ?_
          go_simp
          refine (IdemP_spec (Hs.out.at Seq.way) Rs.out.ne Ls.out).mono ?_
          rintro e y6 ⟨rfl, hy6⟩
          have HY6 := below_step hy6 (Seq.way : Below w9.heap.size w9 _)
          have zy6 := HY6.size
          (try dsimp only)
          clear hHeld
          refine hK.out _ _ (HK HY6).out fun hHeld => ?_
          clear hK K
          (try simp only [Act.put, List.getElem_toArray, List.getElem_cons_zero, List.getElem_cons_succ, List.setIfInBounds_toArray, List.set_cons_zero, List.set_cons_succ])
          refine wpAnyH_one (i := 33) (by kernel_rfl) rfl (by rfl) fun K hK => ?_
          go_simp
          refine (IdemR_spec (Hs.out.at Seq.way)).mono ?_
          rintro e y7 ⟨rfl, hy7⟩
          have HY7 := below_step hy7 (Seq.way : Below w9.heap.size w9 _)
          have zy7 := HY7.size
          (try dsimp only)
          clear hHeld
          refine hK.out _ _ (HK HY7).out fun hHeld => ?_
          clear hK K
          (try simp only [Act.put, List.getElem_toArray, List.getElem_cons_zero, List.getElem_cons_succ, List.setIfInBounds_toArray, List.set_cons_zero, List.set_cons_succ])
          refine wpAnyH_take1 (i := 34) (oi := _) (v := ?_) (by kernel_rfl) rfl (by kernel_rfl) (fun _ _ _ h => h) (Or.inl ⟨by rfl, ?_⟩) (by assumption) ?_
          rotate_left 1
          · intro w hSw; (try dsimp only at hSw); go_simp; (with_reducible rfl)
          (try simp only [Act.put, List.getElem_toArray, List.getElem_cons_zero, List.getElem_cons_succ, List.setIfInBounds_toArray, List.set_cons_zero, List.set_cons_succ])
          refine wpAnyH_take1 (i := 35) (oi := _) (v := ?_) (by kernel_rfl) rfl (by kernel_rfl) (fun _ _ _ h => h) (Or.inl ⟨by rfl, ?_⟩) (by assumption) ?_
          rotate_left 1
          · intro w hSw; (try dsimp only at hSw); go_simp; (with_reducible rfl)
          (try simp only [Act.put, List.getElem_toArray, List.getElem_cons_zero, List.getElem_cons_succ, List.setIfInBounds_toArray, List.set_cons_zero, List.set_cons_succ])
          refine wpAnyH_take1 (i := 36) (oi := _) (v := ?_) (by kernel_rfl) rfl (by kernel_rfl) (fun _ _ _ h => h) (Or.inl ⟨by rfl, ?_⟩) (by assumption) ?_
          rotate_left 1
          · intro w hSw; (try dsimp only at hSw); go_simp; (with_reducible rfl)
          (try simp only [Act.put, List.getElem_toArray, List.getElem_cons_zero, List.getElem_cons_succ, List.setIfInBounds_toArray, List.set_cons_zero, List.set_cons_succ])
          refine wpAnyH_take1 (i := 37) (oi := _) (v := ?_) (by kernel_rfl) rfl (by kernel_rfl) (fun _ _ _ h => h) (Or.inl ⟨by rfl, ?_⟩) (by assumption) ?_
          rotate_left 1
          · intro w hSw; (try dsimp only at hSw); go_simp; (with_reducible rfl)
          (try simp only [Act.put, List.getElem_toArray, List.getElem_cons_zero, List.getElem_cons_succ, List.setIfInBounds_toArray, List.set_cons_zero, List.set_cons_succ])
          refine wpAnyH_take1 (i := 38) (oi := _) (v := ?_) (by kernel_rfl) rfl (by kernel_rfl) (fun _ _ _ h => h) (Or.inl ⟨by rfl, ?_⟩) (by assumption) ?_
          rotate_left 1
          · intro w hSw; (try dsimp only at hSw); go_simp; (with_reducible rfl)
          (try simp only [Act.put, List.getElem_toArray, List.getElem_cons_zero, List.getElem_cons_succ, List.setIfInBounds_toArray, List.set_cons_zero, List.set_cons_succ])
          refine wpAnyH_take1 (i := 39) (oi := _) (v := ?_) (by kernel_rfl) rfl (by kernel_rfl) (fun _ _ _ h => h) (Or.inl ⟨by rfl, ?_⟩) (by assumption) ?_
          rotate_left 1
          · intro w hSw; (try dsimp only at hSw); go_simp; (with_reducible rfl)
          (try simp only [Act.put, List.getElem_toArray, List.getElem_cons_zero, List.getElem_cons_succ, List.setIfInBounds_toArray, List.set_cons_zero, List.set_cons_succ])
          refine wpAnyH_done (by kernel_rfl) ?_ _
          refine NoPanic.normal ?_
          go_wp2_with fail
          go_ret
          exact ⟨ret_bool (by simp), below_step (Seq.way : Below w9.heap.size w9 _) HB9.out⟩
    · have hg : (30 : Int) < (l.length : Int) := by omega
      go_wp2_with fail
      go_ret
      exact ⟨rfl, HB1.out⟩
end Go.Proofs.Ytgfiaddldmmjiaa
