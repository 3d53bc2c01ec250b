/-
  Layer 13: the laws' head.
-/
import Derived.Test.YteefdmpaclnaiaaTnQ
import Derived.Test.YteefdmpaclnaiaaRun
import Derived.Test.YteefdmpaclnaiaaFlow
namespace Go.Proofs.Yteefdmpaclnaiaa
open Go Go.RowKit

def BoxB (S : Nat → Prop) (w : World) (B : Nat) (b : Bas) : Prop :=
  ∃ fa fc ta tc, Row 25 w B [.slice fa b.facts.length fc, .int .i64 b.ver, .bool b.on, .slice ta b.todo.length tc] ∧ BasV S w (.agg #[.slice fa b.facts.length fc, .int .i64 b.ver, .bool b.on, .slice ta b.todo.length tc]) b
theorem BoxB.at {S : Nat → Prop} {w w' : World} {B : Nat} {b : Bas} (h : BoxB S w B b) (hb : Below w.heap.size w w') : BoxB S w' B b := by
  obtain ⟨fa, fc, ta, tc, h1, h2⟩ := h
  exact ⟨fa, fc, ta, tc, rowTo h1 hb, h2.at hb⟩
theorem BasV.shape {S : Nat → Prop} {w : World} {v : Value} {b : Bas} (h : BasV S w v b) : ∃ fa fc ta tc, v = .agg #[.slice fa b.facts.length fc, .int .i64 b.ver, .bool b.on, .slice ta b.todo.length tc] := by
  obtain ⟨fa, fc, ta, tc, rfl, -⟩ := h
  exact ⟨fa, fc, ta, tc, rfl⟩

set_option maxHeartbeats 8000000 in
set_option maxRecDepth 100000 in
theorem head_spec {w : World} : Calls Try.prog 10 #[] w (RetV (.bool true) w) := by
  go_enter Try.func10, Try.ntmps10
  go_wp2_with fail
  refine (NewP_spec (S := fun _ => True)).mono ?_
  rintro e w1 ⟨v1, rfl, hb1, hs1⟩
  have Hs1 := Lib.hid hs1
  obtain ⟨fa, fc, ta, tc, rfl⟩ := hs1.shape
  clear hs1
  go_wp2_with fail
  refine (BeginP_spec Hs1.out).mono ?_
  rintro e w2 ⟨v2, rfl, hb2, hs2⟩
  have Hb2 := Lib.hid (below_step hb2 hb1)
  rw [show beginE bas0 = 0 from rfl]
  have hs2 : BasV (fun _ => True) w2 v2 hb0 := hs2
  have Hs2 := Lib.hid hs2
  obtain ⟨fa, fc, ta, tc, rfl⟩ := hs2.shape
  clear hs2 hb1 hb2 Hs1
  go_wp2_with fail
  have HBa := Lib.hid (show BoxB (fun _ => True) (w2.alloc (.cells #[.slice fa hb0.facts.length fc, .int .i64 hb0.ver, .bool hb0.on, .slice ta hb0.todo.length tc] 25)) w2.heap.size hb0 from ⟨fa, fc, ta, tc, Row.new _ [_, _, _, _] _ rfl, Hs2.out.at Seq.way⟩)
  refine (BeginP_spec (Hs2.out.at Seq.way)).mono ?_
  rintro e w3 ⟨v3, rfl, hb3, hs3⟩
  have HBb := Lib.hid (HBa.out.at hb3)
  have Hb3 := Lib.hid (below_step hb3 (Seq.way : Below w2.heap.size w2 _))
  rw [show beginE hb0 = 130 from rfl]
  obtain ⟨ga, gc, ua, uc, rfl⟩ := hs3.shape
  clear hs3 hb3 HBa
  have l3 : w2.heap.size < w3.heap.size := by obtain ⟨_, _, _, _, h, -⟩ := HBb.out; exact h.lt
  go_upto_region 3 with fail
  obtain ⟨wb, hwb⟩ : ∃ wb, wb = w3.alloc (.cells #[.slice ga (beginO hb0).facts.length gc, .int .i64 (beginO hb0).ver, .bool (beginO hb0).on, .slice ua (beginO hb0).todo.length uc] 25) := ⟨_, rfl⟩
  have HBc := Lib.hid (show BoxB (fun _ => True) wb w2.heap.size hb0 by rw [hwb]; exact HBb.out.at Seq.way)
  have Hbb := Lib.hid (show Below w.heap.size w wb by rw [hwb]; exact (below_step Hb3.out Hb2.out).alloc (below_step Hb3.out Hb2.out).size _)
  have l4 : w2.heap.size < wb.heap.size := by rw [hwb]; simp; omega
  rw [← hwb]
  clear hwb HBb Hb2 Hb3 Hs2
  go_cut [5, 6] (fun s5 s6 wx => ∃ B5, s5 = .pointer (some ⟨B5, 0, none⟩) ∧ s6 = .int .i64 0 ∧ BoxB (fun x => x ≠ B5) wx B5 hb1 ∧ Below wb.heap.size wb wx ∧ wb.heap.size ≤ B5)
  case first =>
    obtain ⟨ga, gc, ua, uc, hr, hbv⟩ := HBc.out
    have Hk := fun {w' : World} (h : Below wb.heap.size wb w') => Lib.hid ((rowTo hr h).four)
    have HBV := Lib.hid hbv.bnd
    clear hr hbv
    have h0l : hb0.todo.length ≤ 1000000 := by decide
    have i1 : IntOK 1 := ⟨by decide, by decide⟩
    have Kp : ∀ {w' : World}, Below wb.heap.size wb w' → w'.cell? ⟨w2.heap.size, 0, none⟩ = some (.slice ga hb0.facts.length gc) ∧ w'.cell? ⟨w2.heap.size, 1, none⟩ = some (.int .i64 hb0.ver) ∧ w'.cell? ⟨w2.heap.size, 2, none⟩ = some (.bool hb0.on) ∧ w'.cell? ⟨w2.heap.size, 3, none⟩ = some (.slice ua hb0.todo.length uc) := fun h =>
      ⟨(Hk h).out.1, (Hk h).out.2.1, (Hk h).out.2.2.1, (Hk h).out.2.2.2.1⟩
    have p1 : Below wb.heap.size wb wb.drew := Seq.way
    have p2 : Below wb.heap.size wb (wb.alloc (.cells #[.slice none 0 0, .int .i64 0, .bool false, .slice none 0 0] 25)).drew := Seq.way
    have p3 : Row 25 (wb.alloc (.cells #[.slice none 0 0, .int .i64 0, .bool false, .slice none 0 0] 25)).drew wb.heap.size [.slice none 0 0, .int .i64 0, .bool false, .slice none 0 0] := Row.drewE (Row.new wb [.slice none 0 0, .int .i64 0, .bool false, .slice none 0 0] 25 rfl)
    have k1 : ∀ {w5 : World}, Below wb.heap.size wb w5 → BasV (fun x => x ≠ wb.heap.size) w5 (.agg #[.slice ga hb0.facts.length gc, .int .i64 hb0.ver, .bool hb0.on, .slice ua hb0.todo.length uc]) hb0 :=
      fun h => (HBV.out.at h).mono (fun x hx _ => by have h := hx.2; omega) fun _ _ _ => rfl
    have k2 : ∀ {w5 : World} {va : Option Addr} {vc : Nat}, Seq cellE (fun b => (wb.alloc (.cells #[.slice none 0 0, .int .i64 0, .bool false, .slice none 0 0] 25)).drew.heap.size ≤ b) w5 (.slice va (oneT 1).length vc) (oneT 1) → ChgV (fun x => x ≠ wb.heap.size) w5 (.agg #[.bool true, .slice va (oneT 1).length vc]) ⟨true, oneT 1⟩ :=
      fun {w5 va vc} h => ⟨va, vc, rfl, h.mono (fun x hx _ => by simp at hx; omega) fun _ _ _ => rfl⟩
    have k3 : ∀ {w5 : World}, Below wb.heap.size wb w5 → BasV (fun x => x < w5.heap.size) w5 (.agg #[.slice ga hb0.facts.length gc, .int .i64 hb0.ver, .bool hb0.on, .slice ua hb0.todo.length uc]) hb0 :=
      fun h => (HBV.out.at h).mono (fun x hx hlt => hlt) fun _ _ _ => rfl
    have k4 : ∀ {w5 : World} {va : Option Addr} {vc : Nat}, Seq cellE (fun b => wb.drew.heap.size ≤ b) w5 (.slice va (oneT 1).length vc) (oneT 1) → ChgV (fun x => x < w5.heap.size) w5 (.agg #[.bool true, .slice va (oneT 1).length vc]) ⟨true, oneT 1⟩ :=
      fun {w5 va vc} h => ⟨va, vc, rfl, h.mono (fun x hx hlt => hlt) fun _ _ _ => rfl⟩
    have k5 : ∀ {w5 : World}, Below wb.heap.size wb w5 → BasV (fun x => x < w5.heap.size) (w5.alloc (.cells #[.slice none 0 0, .int .i64 0, .bool false, .slice none 0 0] 25)) (.agg #[.slice ga hb0.facts.length gc, .int .i64 hb0.ver, .bool hb0.on, .slice ua hb0.todo.length uc]) hb0 :=
      fun h => (k3 h).at Seq.way
    have k6 : ∀ {w5 : World} {va : Option Addr} {vc : Nat}, Seq cellE (fun b => wb.drew.heap.size ≤ b) w5 (.slice va (oneT 1).length vc) (oneT 1) → ChgV (fun x => x < w5.heap.size) (w5.alloc (.cells #[.slice none 0 0, .int .i64 0, .bool false, .slice none 0 0] 25)) (.agg #[.bool true, .slice va (oneT 1).length vc]) ⟨true, oneT 1⟩ :=
      fun h => (k4 h).at Seq.way
    go_region_held3 (fun w' => w'.cell? ⟨w2.heap.size, 0, none⟩ = some (.slice ga hb0.facts.length gc) ∧ w'.cell? ⟨w2.heap.size, 1, none⟩ = some (.int .i64 hb0.ver) ∧ w'.cell? ⟨w2.heap.size, 2, none⟩ = some (.bool hb0.on) ∧ w'.cell? ⟨w2.heap.size, 3, none⟩ = some (.slice ua hb0.todo.length uc))
      (first
        | (with_reducible exact Kp p1) | (with_reducible exact Kp p2) | (with_reducible exact Kp HB6) | (with_reducible exact Kp (HB6.alloc zz6 _)) | (with_reducible exact Kp (below_set4 HB6 (Nat.le_refl _))) | (with_reducible exact Kp (below_set4 HB6 zz5)) | (with_reducible exact Kp HB5) | (with_reducible exact Kp (HB5.alloc zz5 _)) | go_keep)
      (first
        | (go_at_call 33; (with_reducible refine (one_spec (w := wb.drew) i1).mono ?_); rintro e w5 ⟨v5, rfl, hb5, hp5⟩; have HB5 := below_step hb5 p1; have zz5 := HB5.size; obtain ⟨va5, vc5, rfl⟩ := hp5.shape)
        | (go_at_call 33; (with_reducible refine (one_spec (w := (wb.alloc (.cells #[.slice none 0 0, .int .i64 0, .bool false, .slice none 0 0] 25)).drew) i1).mono ?_); rintro e w5 ⟨v5, rfl, hb5, hp5⟩; have HB5 := below_step hb5 p2; have zz5 := HB5.size; have r5 := rowTo p3 hb5; obtain ⟨va5, vc5, rfl⟩ := hp5.shape)
        | (go_at_call 17; have r5' := r5; (with_reducible refine (ChangeP_spec (k1 HB5) (k2 hp5) h0l).mono ?_); rintro e w6 ⟨v6, rfl, hb6, hp6⟩; have HB6 := below_step hb6 HB5; have zz6 := HB6.size; have r6 := rowTo r5 hb6; obtain ⟨e60, e61, e62, e63, f60, f61, f62, f63⟩ := r6.four; rw [hn1]; obtain ⟨x60, x61, x62, x63, rfl⟩ := hp6.shape)
        | (go_at_call 17; (with_reducible refine (ChangeP_spec (k3 HB5) (k4 hp5) h0l).mono ?_); rintro e w6 ⟨v6, rfl, hb6, hp6⟩; have HB6 := below_step hb6 HB5; have zz6 := HB6.size; rw [hn1]; obtain ⟨x60, x61, x62, x63, rfl⟩ := hp6.shape)
        | (go_at_call 17; (with_reducible refine (ChangeP_spec (k5 HB5) (k6 hp5) h0l).mono ?_); rintro e w6 ⟨v6, rfl, hb6, hp6⟩; have HB6 := below_step hb6 (HB5.alloc zz5 (.cells #[.slice none 0 0, .int .i64 0, .bool false, .slice none 0 0] 25)); have zz6 := HB6.size; have r6 := rowTo (Row.new w5 [.slice none 0 0, .int .i64 0, .bool false, .slice none 0 0] 25 rfl) hb6; obtain ⟨e60, e61, e62, e63, f60, f61, f62, f63⟩ := r6.four; rw [hn1]; obtain ⟨x60, x61, x62, x63, rfl⟩ := hp6.shape))
    · go_wp2_with fail
      go_meet
      exact ⟨_, rfl, rfl, ⟨x60, x61, x62, x63, Row.new _ [_, _, _, _] _ rfl, (show BasV (fun x => x ≠ w6.heap.size) w6 _ hb1 from hp6.bnd.mono (fun x hx _ => by have h := hx.2; omega) fun _ _ _ => rfl).at Seq.way⟩, HB6.alloc zz6 _, zz6⟩
    · go_wp2_with fail
      go_meet
      exact ⟨_, rfl, rfl, ⟨x60, x61, x62, x63, r6.set4, (show BasV (fun x => x ≠ w5.heap.size) w6 _ hb1 from hp6.mono (fun x hx _ => hx.elim (fun h => by omega) fun h => by simp at h; omega) fun _ _ _ => rfl).mono (fun _ h _ => h) fun x hx _ => heap_set4 hx⟩, below_set4 HB6 zz5, zz5⟩
    · go_wp2_with fail
      go_meet
      exact ⟨_, rfl, rfl, ⟨x60, x61, x62, x63, r6.set4, (show BasV (fun x => x ≠ wb.heap.size) w6 _ hb1 from hp6.mono (fun x hx _ => hx.elim (fun h => h) fun h => by have := r5.lt; omega) fun _ _ _ => rfl).mono (fun _ h _ => h) fun x hx _ => heap_set4 hx⟩, below_set4 HB6 (Nat.le_refl _), Nat.le_refl _⟩
  case rest =>
    obtain ⟨B5, rfl, rfl, hbx, hbl, hl5⟩ := hcut
    obtain ⟨wd, rfl⟩ : ∃ wd, wd = wc := ⟨_, rfl⟩
    have Hbd := Lib.hid (below_step hbl Hbb.out)
    have hl5w : w.heap.size ≤ B5 := Nat.le_trans Hbb.out.size hl5
    clear hbl HBc Hbb l3 l4
    go_upto_region 4 with fail
    go_cut [7] (fun s7 wx => s7 = .int .i64 0 ∧ BoxB (fun _ => True) wx B5 hb2 ∧ Below w.heap.size w wx)
    case first =>
      obtain ⟨ga, gc, ua, uc, hr, hbv⟩ := hbx
      obtain ⟨c0, c1, c2, c3, d0, d1, d2, d3⟩ := hr.four
      have HR := Lib.hid hr
      have HBV := Lib.hid hbv
      have l5 := hr.lt
      have Hq := fun {w' : World} (h : Below wd.heap.size wd w') => Lib.hid ((rowTo hr h).four)
      have i2 : IntOK 2 := ⟨by decide, by decide⟩
      have h1l : hb1.todo.length ≤ 1000000 := by rw [hb1_eq]; simp
      clear hr hbv
      obtain ⟨V, hV⟩ : ∃ V : Value, V = .agg #[.slice ga hb1.facts.length gc, .int .i64 hb1.ver, .bool hb1.on, .slice ua hb1.todo.length uc] := ⟨_, rfl⟩
      obtain ⟨D1, hD1⟩ : ∃ D : Value → World → Prop, D = fun u w' => ∃ a c, u = .slice a 2 c ∧ Seq cellE (fun x => wd.heap.size ≤ x) w' (.slice a 2 c) (oneT (2)) := ⟨_, rfl⟩
      obtain ⟨D2, hD2⟩ : ∃ D : Value → World → Prop, D = fun u w' => ∃ a c, u = .agg #[.bool false, .slice a 2 c] ∧ Seq cellE (fun x => wd.heap.size ≤ x) w' (.slice a 2 c) (oneT (2)) := ⟨_, rfl⟩
      obtain ⟨D3, hD3⟩ : ∃ D : Value → World → Prop, D = fun u w' => ∃ o, u = .tuple #[o, .int .i64 0] ∧ BasV (fun x => x ≠ B5) w' o (hb2) := ⟨_, rfl⟩
      refine wp_region_noPanic ?_
      refine wp_region_held_drew (S := fun _ => True) (by kernel_rfl) trivial (fun hHeld => ?_)
      clear hHeld
      refine wpAnyH_flow' (f := 4) [0, 1, 2, 3, 4] [39, 40, 41, 42, 38] [[], [], [1], [0, 2], [3]] [fun v _ => v = V, D1, D2, D3, D3]
        (by kernel_rfl) rfl (by decide) [u39, u40, u41, u42, u38] rfl (by rfl) ?_ (fun _ _ => trivial) ?_ ?_
      · intro D hD v y z hDv hyz
        simp only [List.mem_cons, List.not_mem_nil, or_false] at hD
        rcases hD with rfl | rfl | rfl | rfl | rfl
        · exact hDv
        · rw [hD1] at hDv ⊢
          obtain ⟨a, c, e, h⟩ := hDv
          exact ⟨a, c, e, h.at hyz⟩
        · rw [hD2] at hDv ⊢
          obtain ⟨a, c, e, h⟩ := hDv
          exact ⟨a, c, e, h.at hyz⟩
        · rw [hD3] at hDv ⊢
          obtain ⟨o, e, h⟩ := hDv
          exact ⟨o, e, h.at hyz⟩
        · rw [hD3] at hDv ⊢
          obtain ⟨o, e, h⟩ := hDv
          exact ⟨o, e, h.at hyz⟩
      · intro k hk vs y hvs hby0 hdeps
        have hby : Below wd.heap.size wd y := Below.trans (Seq.way : Below wd.heap.size wd wd.drew) hby0
        have hzy := hby.size
        obtain ⟨e0, e1, e2, e3, -, -, -, -⟩ := (Hq hby).out
        obtain ⟨v0, v1, v2, v3, v4, rfl⟩ : ∃ v0 v1 v2 v3 v4, vs = [v0, v1, v2, v3, v4] := by
          match vs, hvs with
          | [v0, v1, v2, v3, v4], _ => exact ⟨v0, v1, v2, v3, v4, rfl⟩
        simp only [putsL, Act.put, List.setIfInBounds_toArray, List.set_cons_zero, List.set_cons_succ]
        rcases (show k = 0 ∨ k = 1 ∨ k = 2 ∨ k = 3 ∨ k = 4 by simp at hk; omega) with rfl | rfl | rfl | rfl | rfl
        · refine ⟨_, rfl, by rfl, fun K hK => ?_⟩
          go_simp
          exact hK.out _ _ (Below.refl _ _) (holds_of rfl hV.symm)
        · refine ⟨_, rfl, by rfl, fun K hK => ?_⟩
          go_simp
          refine (one_spec i2).mono ?_
          rintro e z ⟨v, rfl, hbz, hp⟩
          obtain ⟨a5, c5, rfl⟩ := hp.shape
          refine hK.out _ _ hbz (holds_of (D := D1) rfl ?_)
          rw [hD1]
          exact ⟨a5, c5, rfl, hp.mono (fun x hx _ => by omega) fun _ _ _ => rfl⟩
        · have hd := hdeps 1 (by simp) v1 rfl D1 rfl
          rw [hD1] at hd
          obtain ⟨a5, c5, rfl, hp⟩ := hd
          have Hp := Lib.hid hp
          clear hp
          refine ⟨_, rfl, by rfl, fun K hK => ?_⟩
          go_simp
          refine hK.out _ _ (Below.refl _ _) (holds_of (D := D2) rfl ?_)
          rw [hD2]
          exact ⟨a5, c5, rfl, Hp.out⟩
        · have hd0 := hdeps 0 (by simp) v0 rfl _ rfl
          rw [hV] at hd0
          subst hd0
          have hd := hdeps 2 (by simp) v2 rfl D2 rfl
          rw [hD2] at hd
          obtain ⟨a5, c5, rfl, hp⟩ := hd
          have Hp := Lib.hid hp
          clear hp
          refine ⟨_, rfl, by rfl, fun K hK => ?_⟩
          go_simp
          refine (ChangeP_spec (S := fun x => x ≠ B5) (b := hb1) (c := ⟨false, oneT (2)⟩) (HBV.out.at hby) ⟨a5, c5, rfl, Hp.out.mono (fun x hx _ => by omega) fun _ _ _ => rfl⟩ h1l).mono ?_
          rintro e z ⟨o, rfl, hbz, ho⟩
          rw [hn2]
          refine hK.out _ _ hbz (holds_of (D := D3) rfl ?_)
          rw [hD3]
          exact ⟨o, rfl, ho.mono (fun x hx _ => hx.elim id fun h => by omega) fun _ _ _ => rfl⟩
        · have hd := hdeps 3 (by simp) v3 rfl D3 rfl
          have hd' := hd
          rw [hD3] at hd'
          obtain ⟨o, rfl, -⟩ := hd'
          refine ⟨_, rfl, by rfl, fun K hK => ?_⟩
          go_simp
          exact hK.out _ _ (Below.refl _ _) (holds_of (D := D3) rfl hd)
      intro vs y hvs hby0 hhas
      have hby : Below wd.heap.size wd y := Below.trans (Seq.way : Below wd.heap.size wd wd.drew) hby0
      have hzy := hby.size
      obtain ⟨v0, v1, v2, v3, v4, rfl⟩ : ∃ v0 v1 v2 v3 v4, vs = [v0, v1, v2, v3, v4] := by
        match vs, hvs with
        | [v0, v1, v2, v3, v4], _ => exact ⟨v0, v1, v2, v3, v4, rfl⟩
      have x4 := hhas 4 v4 rfl D3 rfl
      rw [hD3] at x4
      obtain ⟨o, rfl, x4⟩ := x4
      obtain ⟨e0, e1, e2, e3, f0, f1, f2, f3⟩ := (Hq hby).out
      have Hx5 := Lib.hid x4
      obtain ⟨x60, x61, x62, x63, rfl⟩ := x4.shape
      clear x4 hhas hvs hD1 hD2 hD3 hby0 D1 D2 D3
      simp only [putsL, Act.put, List.setIfInBounds_toArray, List.set_cons_zero, List.set_cons_succ]
      refine wpAnyH_take1 (i := 5) (oi := _) (v := ?_) (by kernel_rfl) rfl (by kernel_rfl) (fun _ _ _ h => h) (Or.inl ⟨by rfl, ?_⟩) trivial ?_
      rotate_left 1
      · intro w hSw; go_simp; (with_reducible rfl)
      (try simp only [Act.put, List.getElem_toArray, List.getElem_cons_zero, List.getElem_cons_succ, List.setIfInBounds_toArray, List.set_cons_zero, List.set_cons_succ])
      refine wpAnyH_take1 (i := 6) (oi := _) (v := ?_) (by kernel_rfl) rfl (by kernel_rfl) (fun _ _ _ h => h) (Or.inl ⟨by rfl, ?_⟩) trivial ?_
      rotate_left 1
      · intro w hSw; go_simp; (with_reducible rfl)
      (try simp only [Act.put, List.getElem_toArray, List.getElem_cons_zero, List.getElem_cons_succ, List.setIfInBounds_toArray, List.set_cons_zero, List.set_cons_succ])
      refine wpAnyH_one (i := 7) (by kernel_rfl) rfl (by rfl) fun K hK => ?_
      go_simp
      refine hK.out _ _ trivial fun hHeld => ?_
      clear hK K hHeld
      (try simp only [Act.put, List.getElem_toArray, List.getElem_cons_zero, List.getElem_cons_succ, List.setIfInBounds_toArray, List.set_cons_zero, List.set_cons_succ])
      refine wpAnyH_one (i := 8) (by kernel_rfl) rfl (by rfl) fun K hK => ?_
      go_simp
      refine hK.out _ _ trivial fun hHeld => ?_
      clear hK K hHeld
      (try simp only [Act.put, List.getElem_toArray, List.getElem_cons_zero, List.getElem_cons_succ, List.setIfInBounds_toArray, List.set_cons_zero, List.set_cons_succ])
      refine wpAnyH_done (by kernel_rfl) ?_ _
      refine NoPanic.normal ?_
      go_wp2_with fail
      go_meet
      exact ⟨rfl, ⟨x60, x61, x62, x63, (rowTo HR.out hby).set4, Hx5.out.mono (fun _ _ _ => trivial) fun x hx _ => heap_set4 hx⟩, below_set4 (below_step hby Hbd.out) hl5w⟩
    case rest =>
      obtain ⟨rfl, hbx, hbe⟩ := hcut
      obtain ⟨we, rfl⟩ : ∃ we, we = wc := ⟨_, rfl⟩
      clear Hbd hl5 hl5w
      obtain ⟨ga, gc, ua, uc, hr, hbv⟩ := hbx
      have Hq := fun {w' : World} (h : Below we.heap.size we w') => Lib.hid ((rowTo hr h).four)
      have HBV := Lib.hid hbv
      have Hbe := Lib.hid hbe
      have l5 := hr.lt
      obtain ⟨c0, c1, c2, c3, -, -, -, -⟩ := hr.four
      have h2l : hb2.todo.length ≤ 1000000 := by rw [hb2_eq]; simp
      have i0 : IntOK 0 := ⟨by decide, by decide⟩
      have i2 : IntOK 2 := ⟨by decide, by decide⟩
      have i1 : IntOK 1 := ⟨by decide, by decide⟩
      clear hr hbv hbe
      go_wp2_with fail
      refine (ChangeP_spec (S := fun _ => True) (b := hb2) (c := ⟨false, [⟨2, ⟨#[]⟩, 0⟩]⟩) (HBV.out.at Seq.way) ⟨_, _, rfl, seq1C trivial (Row.new _ [_, _, _] _ rfl) ⟨i2, i0, show (⟨#[]⟩ : ByteArray).size ≤ _ by decide⟩⟩ h2l).mono ?_
      rintro e w6 ⟨v6, rfl, hb6, hp6⟩
      rw [hn3]
      have HB6 := Lib.hid (below_step hb6 (Seq.way : Below we.heap.size we _))
      obtain ⟨xa, xb, xc, xd, rfl⟩ := hp6.shape
      obtain ⟨c0, c1, c2, c3, -, -, -, -⟩ := (Hq HB6.out).out
      have z6 := HB6.out.size
      have l6 : B5 < w6.heap.size := by omega
      clear hp6 hb6
      go_wp2_with fail
      refine (NewP_spec (S := fun _ => True)).mono ?_
      rintro e w7 ⟨v7, rfl, hb7, hp7⟩
      have HB7 := Lib.hid (below_step hb7 (HB6.out.alloc HB6.out.size _))
      have Hp7 := Lib.hid hp7
      obtain ⟨ya, yb, yc, yd, rfl⟩ := hp7.shape
      clear hp7 hb7 c0 c1 c2 c3
      go_wp2_with fail
      refine (one_spec i1).mono ?_
      rintro e w8 ⟨v8, rfl, hb8, hp8⟩
      have HB8 := Lib.hid (below_step hb8 HB7.out)
      have Hp78 := Lib.hid (Hp7.out.at hb8)
      have Hp8 := Lib.hid hp8
      obtain ⟨za, zb, rfl⟩ := hp8.shape
      clear hp8 hb8 Hp7
      go_wp2_with fail
      refine (ChangeP_spec (b := bas0) (c := ⟨false, oneT 1⟩) Hp78.out ⟨za, zb, rfl, Hp8.out.mono (fun _ _ _ => trivial) fun _ _ _ => rfl⟩ (by decide)).mono ?_
      rintro e w9 ⟨v9, rfl, hb9, hp9⟩
      rw [hn4]
      have HB9 := Lib.hid (below_step hb9 HB8.out)
      obtain ⟨pa, pb, pc, pd, rfl⟩ := hp9.shape
      obtain ⟨c0, c1, c2, c3, -, -, -, -⟩ := (Hq HB9.out).out
      have z9 := HB9.out.size
      have l9 : B5 < w9.heap.size := by omega
      clear hp9 hb9 Hp78 Hp8
      go_wp2_with fail
      have HB9' := Lib.hid (HB9.out.alloc HB9.out.size (.cells #[.slice pa (changeO bas0 ⟨false, oneT 1⟩).facts.length pb, .int .i64 (changeO bas0 ⟨false, oneT 1⟩).ver, .bool (changeO bas0 ⟨false, oneT 1⟩).on, .slice pc (changeO bas0 ⟨false, oneT 1⟩).todo.length pd] 25))
      have hrow2 : RowT hb2.facts := by rw [hb2_eq]; exact rowT_nil
      refine (NowP_spec (HBV.out.at HB9'.out) hrow2).mono ?_
      rintro e w10 ⟨v10, rfl, hb10, hp10⟩
      rw [hnow] at hp10
      have HB10 := Lib.hid (below_step hb10 HB9'.out)
      have Hp10 := Lib.hid (show Seq (seqE cellE) (fun _ => True) w10 v10 [oneT 1] from hp10.mono (fun _ _ _ => trivial) fun _ _ _ => rfl)
      obtain ⟨na, nc, rfl⟩ := hp10.shape
      obtain ⟨c0, c1, c2, c3, -, -, -, -⟩ := (Hq HB10.out).out
      have z10 := HB10.out.size
      have l10 : B5 < w10.heap.size := by omega
      clear hp10 hb10 HB9'
      go_wp2_with fail
      refine (CommitP_spec (HBV.out.at HB10.out) hrow2 (by rw [hb2_eq]; decide) (by rw [hb2_eq]; decide)).mono ?_
      rintro e w11 ⟨o11, x11, y11, rfl, hb11, ho11, hx11, hy11⟩
      rw [hcom.1] at ho11
      rw [hcom.2.1]
      rw [hcom.2.2.1] at hx11
      rw [hcom.2.2.2] at hy11
      have HB11 := Lib.hid (below_step hb11 HB10.out)
      have Hp11 := Lib.hid (Hp10.out.at hb11)
      have Ho11 := Lib.hid (show BasV (fun _ => True) w11 o11 ⟨[oneT 1], 1, false, []⟩ from ho11.mono (fun _ _ _ => trivial) fun _ _ _ => rfl)
      have Hx11 := Lib.hid (show Seq (seqE cellE) (fun _ => True) w11 x11 [oneT 1] from hx11.mono (fun _ _ _ => trivial) fun _ _ _ => rfl)
      obtain ⟨oa, ob, oc, od, rfl⟩ := ho11.shape
      obtain ⟨xa, xb, rfl⟩ := hx11.shape
      obtain ⟨yya, yyb, rfl⟩ := hy11.shape
      obtain ⟨c0, c1, c2, c3, -, -, -, -⟩ := (Hq HB11.out).out
      have z11 := HB11.out.size
      have l11 : B5 < w11.heap.size := by omega
      have hq13 := fun {w' : World} (h : Below (w11.alloc (.cells #[.slice oa 1 ob, .int .i64 1, .bool false, .slice oc 0 od] 25)).heap.size (w11.alloc (.cells #[.slice oa 1 ob, .int .i64 1, .bool false, .slice oc 0 od] 25)) w') => Lib.hid ((rowTo (Row.new w11 [_, _, _, _] 25 rfl) h).four)
      obtain ⟨W13, hW13⟩ : ∃ W13, W13 = w11.alloc (.cells #[.slice oa 1 ob, .int .i64 1, .bool false, .slice oc 0 od] 25) := ⟨_, rfl⟩
      have HB13 := Lib.hid (show Below we.heap.size we W13 by rw [hW13]; exact HB11.out.alloc HB11.out.size _)
      have Hp13 := Lib.hid (show Seq (seqE cellE) (fun _ => True) W13 (.slice na 1 nc) [oneT 1] by rw [hW13]; exact Hp11.out.at Seq.way)
      have Ho13 := Lib.hid (show BasV (fun _ => True) W13 (.agg #[.slice oa 1 ob, .int .i64 1, .bool false, .slice oc 0 od]) ⟨[oneT 1], 1, false, []⟩ by rw [hW13]; exact Ho11.out.at Seq.way)
      have Hx13 := Lib.hid (show Seq (seqE cellE) (fun _ => True) W13 (.slice xa 1 xb) [oneT 1] by rw [hW13]; exact Hx11.out.at Seq.way)
      have z13 : w11.heap.size < W13.heap.size := by rw [hW13]; simp
      rw [← hW13] at hq13
      have HW13 := Lib.hid hW13
      clear ho11 hx11 hy11 hb11 hW13 Hp11 Ho11 Hx11 Hp10
      go_wp2_with fail
      rw [← HW13.out]
      refine (BackP_spec (HBV.out.at HB13.out)).mono ?_
      rintro e w14 ⟨o14, rfl, hb14, ho14⟩
      rw [show backE hb2 = 0 by unfold backE; rw [hb2_eq]; rfl]
      rw [show backO hb2 = ⟨[], 0, false, []⟩ by unfold backO; rw [hb2_eq]; rfl] at ho14
      have HB14 := Lib.hid hb14
      have z14 := hb14.size
      obtain ⟨ta4, tb4, tc4, td4, rfl⟩ := ho14.shape
      obtain ⟨q0, q1, q2, q3, -, -, -, -⟩ := (hq13 HB14.out).out
      have l14 : w11.heap.size < w14.heap.size := by omega
      clear ho14 hb14
      go_wp2_with fail
      obtain ⟨W17, hW17⟩ : ∃ W17, W17 = w14.alloc (.cells #[.slice ta4 0 tb4, .int .i64 0, .bool false, .slice tc4 0 td4] 25) := ⟨_, rfl⟩
      have hr17 : Row 25 W17 w14.heap.size [.slice ta4 0 tb4, .int .i64 0, .bool false, .slice tc4 0 td4] := by rw [hW17]; exact Row.new w14 [_, _, _, _] _ rfl
      have HB17 := Lib.hid (show Below W13.heap.size W13 W17 by rw [hW17]; exact HB14.out.alloc z14 _)
      have Hq17 := fun {w' : World} (h : Below W17.heap.size W17 w') => Lib.hid ((rowTo hr17 h).four)
      have HW17 := Lib.hid hW17
      have z17 : w14.heap.size < W17.heap.size := hr17.lt
      clear hW17 hr17 q0 q1 q2 q3
      rw [← HW17.out]
      refine (BackP_spec (b := ⟨[oneT 1], 1, false, []⟩) (Ho13.out.at HB17.out)).mono ?_
      rintro e w15 ⟨o15, rfl, hb15, ho15⟩
      rw [show backE ⟨[oneT 1], 1, false, []⟩ = 131 from rfl]
      obtain ⟨ra4, rb4, rc4, rd4, rfl⟩ := ho15.shape
      have z15 := hb15.size
      have HB15 := Lib.hid hb15
      clear ho15 hb15
      go_wp2_with fail
      refine (one_spec i1).mono ?_
      rintro e w16 ⟨v16, rfl, hb16, hp16⟩
      have hw16 : Below W17.heap.size W17 w16 := below_step hb16 (HB15.out.alloc z15 _)
      have Hw16 := Lib.hid hw16
      have Hv16 := Lib.hid (below_step hw16 HB17.out)
      have Hp16 := Lib.hid (hp16.mono (T := fun _ => True) (fun _ _ _ => trivial) fun _ _ _ => rfl)
      have hof : Seq (seqE cellE) (fun _ => True) W13 (.slice oa 1 ob) [oneT 1] := by
        obtain ⟨_, _, _, _, e, -, hs, -⟩ := Ho13.out
        simp only [Value.agg.injEq, Array.mk.injEq, List.cons.injEq, Value.slice.injEq] at e
        obtain ⟨⟨rfl, -, rfl⟩, -⟩ := e
        exact hs
      have Hof := Lib.hid hof
      obtain ⟨ka, kb, rfl⟩ := hp16.shape
      have z16 := Hv16.out.size
      clear hp16 hb16 hw16 hof
      go_wp2_with fail
      refine (SameAll_spec (S := fun _ => True) (T := fun _ => True) (a := [oneT 1]) (b := [oneT 1]) (Hp13.out.at (Hv16.out.alloc z16 _)) (seq1T trivial (Row.new _ [_] _ rfl) (Hp16.out.at Seq.way))).mono ?_
      rintro e w18 ⟨rfl, hq18⟩
      have hb18 := hq18.below (w16.alloc (.cells #[.slice ka 2 kb] 30)).heap.size
      have z18' := hb18.size
      simp at z18'
      have Hw18 := Lib.hid (show Below W17.heap.size W17 w18 from below_step hb18 (Hw16.out.alloc Hw16.out.size _))
      have Hv18 := Lib.hid (below_step Hw18.out HB17.out)
      obtain ⟨q0, q1, q2, q3, -, -, -, -⟩ := (hq13 Hv18).out
      clear hq18 hb18
      go_wp2_with fail
      refine (SameAll_spec (S := fun _ => True) (T := fun _ => True) (a := [oneT 1]) (b := [oneT 1]) (Hof.out.at Hv18.out) (Hp13.out.at Hv18.out)).mono ?_
      rintro e w19 ⟨rfl, hq19⟩
      have Hw19 := Lib.hid (below_step (hq19.below w18.heap.size) Hw18.out)
      have Hv19 := Lib.hid (below_step Hw19.out HB17.out)
      clear hq19 q0 q1 q2 q3
      go_wp2_with fail
      refine (SameAll_spec (S := fun _ => True) (T := fun _ => True) (a := [oneT 1]) (b := [oneT 1]) (Hx13.out.at Hv19.out) (Hp13.out.at Hv19.out)).mono ?_
      rintro e w20 ⟨rfl, hq20⟩
      have Hw20 := Lib.hid (below_step (hq20.below w19.heap.size) Hw19.out)
      have Hv20 := Lib.hid (below_step Hw20.out HB17.out)
      have He20 := Lib.hid (below_step Hv20.out HB13.out)
      obtain ⟨q0, q1, q2, q3, -, -, -, -⟩ := (hq13 Hv20).out
      obtain ⟨r0, r1, r2, r3, -, -, -, -⟩ := (Hq17 Hw20.out).out
      obtain ⟨c0, c1, c2, c3, -, -, -, -⟩ := (Hq He20.out).out
      have HBV20 := Lib.hid (HBV.out.at He20.out)
      have o2 : hb2.on = true := by rw [hb2_eq]
      have o3 : hb2.todo.length = 2 := by rw [hb2_eq]; rfl
      rw [o2] at c2
      rw [o3] at c3
      rw [o2, o3] at HBV20
      clear hq20 o2 o3
      go_wp2_with fail
      refine (RightP13_spec HBV20.out).mono ?_
      rintro e w21 ⟨rfl, hb21⟩
      rw [hright]
      have He21 := Lib.hid (below_step hb21 He20.out)
      clear c0 c1 c2 c3 q0 q1 q2 q3 r0 r1 r2 r3 hb21
      go_wp2_with fail
      refine (RightP13_spec (S := fun _ => True) (b := ⟨[], -1, false, []⟩) ⟨none, 0, none, 0, rfl, ⟨by decide, by decide⟩, Seq.nil _ _ _, Seq.nil _ _ _⟩).mono ?_
      rintro e w22 ⟨rfl, hb22⟩
      rw [hright2]
      have He22 := Lib.hid (below_step (below_step hb22 He21.out) Hbe.out)
      go_wp2_with fail
      go_ret
      exact ⟨rfl, He22.out⟩
end Go.Proofs.Yteefdmpaclnaiaa
