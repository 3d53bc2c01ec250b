/-
  Layer 18, the program: Can, Truth, and ground's Of.
-/
import Derived.Test.YtdbennmbbmoflaaPrF
namespace Go.Proofs.Ytdbennmbbmoflaa
open Go Go.RowKit

theorem CanP_spec {S : Nat → Prop} {w : World} {v : Value} {g : Prog} (hg : ProgV S w v g) (hgood : FineP g) :
    Calls Try.prog 12 #[v] w (Ret (fun o w' => Seq pairE (fun b => w.heap.size ≤ b) w' o (canL g)) w) := by
  have hg' := hg
  obtain ⟨va, vb, rfl, ⟨aa, ac, rfl, -⟩, ⟨ra, rc, rfl, -⟩⟩ := hg
  have hspec := Lib.hid (look_spec (hg'.mono (T := S) (w' := w.alloc (.cells #[.slice aa g.atoms.length ac, .slice ra g.rules.length rc] 30)) (fun _ h _ => h) fun b _ hb => Below.heap_alloc _ _ _ hb) hgood)
  go_enter Try.func12, Try.ntmps12
  go_wp2_with fail
  refine hspec.out.mono ?_
  rintro e w1 ⟨sv, rfl, hb1, hs⟩
  have hb0 : Below w.heap.size w w1 := Below.trans Seq.way (hb1.mono (by simp))
  have hspec2 := Lib.hid (all_spec hs hgood.toGoodP)
  obtain ⟨aa, ac, ra, rc, fa, fc, ha, hc, oa, oc, rfl⟩ := hs.shape
  go_wp2_with fail
  refine hspec2.out.mono ?_
  rintro e w2 ⟨o, rfl, hb2, ho⟩
  have hb02 := hb0.trans (hb2.mono hb0.size)
  have hz := hb0.size
  have ho' : Seq pairE (fun b => w.heap.size ≤ b) w2 o (canL g) := ho.mono (fun b h _ => by omega) fun _ _ _ => rfl
  obtain ⟨oa, oc, rfl, -⟩ := ho
  go_wp2_with fail
  go_ret
  exact ⟨_, rfl, hb02, ho'⟩

set_option maxHeartbeats 800000 in
theorem OfP_spec {S : Nat → Prop} {w : World} {v : Value} {g : Prog} {at_ : Int} (hg : ProgV S w v g) (hl : g.rules.length ≤ 1000000000) :
    Calls Try.prog 45 #[v, .int .i64 at_] w (Ret (fun r w' => Seq intE (Fr S w) w' r (ofL at_ g.rules)) w) := by
  obtain ⟨a, r, rfl, ⟨aa, ac, rfl, -⟩, ⟨ra, rc, rfl, hrc, hrm, hrl, hrn, hr⟩⟩ := hg
  obtain ⟨n, hn⟩ : ∃ n, n = g.atoms.length := ⟨_, rfl⟩
  obtain ⟨rs, hrs⟩ : ∃ rs, rs = g.rules := ⟨_, rfl⟩
  rw [← hn]
  rw [← hrs] at hl hrl hr hrc ⊢
  clear hrs hn
  go_enter Try.func45, Try.ntmps45
  go_wp2_with fail
  go_loopw [5, 11] (fun o i wr => ∃ k : Nat, k ≤ rs.length ∧ i = .int .i64 k ∧ Own intE (fun _ => False) (w.heap.size+1) 3 wr o (ofL at_ (rs.take k)) ∧ Below (w.heap.size+1) (w.alloc (Obj.cells #[.slice aa n ac, Value.slice ra rs.length rc] 30)) wr) (fun _ i _ => rs.length - (intOf i).toNat)
  case atStart =>
    refine ⟨0, Nat.zero_le _, rfl, Own.nil _ _ _ _ _, Seq.way⟩
  case round =>
    obtain ⟨k, hk, rfl, hown, hbel⟩ := hrel
    have hb0 : Below w.heap.size w wr := ((Below.refl _ w).alloc (Nat.le_refl _) _).trans (hbel.mono (by omega))
    have hsz : w.heap.size + 1 ≤ wr.heap.size := by simpa using hbel.size
    have hlen := ofL_len at_ (rs.take k)
    simp at hlen
    by_cases hlt : k < rs.length
    · obtain ⟨b, off, pa, pc, na, nc, rfl, hS, hb, h0, h1, h2, -⟩ := (hr.below hb0 fun _ _ h => h).rule hlt
      have hsn := Lib.hid (ofL_snoc at_ rs k hlt)
      by_cases he : rs[k].head = at_
      · have heb : (rs[k].head == at_) = true := by simp [he]
        have He := Lib.hid he
        clear he
        go_wp2_with (at_builtin; refine wpList_app_int rfl _ _ 24 rfl Try.underlying24 infoInt rfl hown rfl (y := (k:Int)) Seq.way ?_ ?_ ?_ ?_ ?_)
        · exact ⟨by omega, by omega⟩
        · go_simp
        · omega
        · exact hsz
        · intro ao cap w' hown' hkept
          have hkb := (Seq.way (w := wr) (w' := (wr.alloc (.cells #[.int .i64 rs[k].head, .slice pa rs[k].pos.length pc, .slice na rs[k].neg.length nc] 46)).alloc (.cells #[.int .i64 k] 3)) (B := w.heap.size + 1)).trans hkept.below
          clear hown
          go_wp2
          go_roundw
          case rel =>
            refine ⟨k+1, hlt, by go_num, ?_, hbel.trans hkb⟩
            rw [hsn.out, if_pos He.out]
            simpa using hown'
          case measure => simp [intOf]; omega
      · have heb : (rs[k].head == at_) = false := by simpa using he
        go_wp2_with fail
        go_roundw
        case rel =>
          refine ⟨k+1, hlt, by go_num, ?_, hbel.alloc hsz _⟩
          rw [hsn.out, if_neg he, List.append_nil]
          exact hown.move Seq.way
        case measure => simp [intOf]; omega
    · obtain rfl : k = rs.length := by omega
      go_wp2_with fail
      go_ret
      refine ⟨_, rfl, hb0, ?_⟩
      rw [List.take_length] at hown hlen
      exact hown.seq (by omega) fun b _ hb => hb.elim False.elim fun h => .inr (by omega)

set_option maxHeartbeats 1600000 in
set_option maxRecDepth 100000 in
theorem TruthP_spec {S : Nat → Prop} {w : World} {v : Value} {g : Prog} (hg : ProgV S w v g) (hgood : FineP g) :
    Calls Try.prog 20 #[v] w (Ret (fun o w' => Seq intE (fun b => w.heap.size ≤ b) w' o (truthL g)) w) := by
  have hg' := hg
  obtain ⟨va, vb, rfl, ⟨aa, ac, rfl, hac, ham, hal, han, ha⟩, ⟨ra, rc, rfl, -⟩⟩ := hg
  have hnl := hgood.alen
  have hrl := hgood.rlen
  have hfin := Lib.hid (show truthL g = truthTo g g.atoms.length from rfl)
  have hspec := Lib.hid (look_spec (hg'.mono (T := S) (w' := w.alloc (.cells #[.slice aa g.atoms.length ac, .slice ra g.rules.length rc] 30)) (fun _ h _ => h) fun b _ hb => Below.heap_alloc _ _ _ hb) hgood)
  have hP0 := Lib.hid (show Row 30 (w.alloc (.cells #[.slice aa g.atoms.length ac, .slice ra g.rules.length rc] 30)) w.heap.size [.slice aa g.atoms.length ac, .slice ra g.rules.length rc] from Row.new _ _ _ rfl)
  go_enter Try.func20, Try.ntmps20
  go_wp2_with fail
  refine hspec.out.mono ?_
  rintro e w1 ⟨sv, rfl, hb1, hs⟩
  have hz1 : w.heap.size + 1 ≤ w1.heap.size := by simpa using hb1.size
  have hb01 : Below w.heap.size w w1 := Below.trans Seq.way (hb1.mono (by simp))
  have hP := hP0.out.below hb1 (by simp)
  obtain ⟨aa', ac', ra', rc', fa, fc, ha, hc, oa, oc, rfl⟩ := hs.shape
  obtain ⟨_, _, _, _, _, he, -, hf, -⟩ := hs
  simp only [Value.agg.injEq, Array.mk.injEq, List.cons.injEq, and_true] at he
  obtain ⟨-, -, rfl, -⟩ := he
  have hfl : (factsL g).length = g.atoms.length := by simp [factsL]
  have hPc0 := hP.cell (j := 0) (by simp)
  have hPc1 := hP.cell (j := 1) (by simp)
  simp only [List.getElem_cons_zero, List.getElem_cons_succ] at hPc0 hPc1
  obtain ⟨_, _, hfe, -, -, -, -, hf5⟩ := hf
  simp only [Value.slice.injEq] at hfe
  obtain ⟨rfl, -, rfl⟩ := hfe
  have hwlt : w.heap.size < w1.heap.size := by omega
  go_wp2_with fail
  obtain ⟨W1, hW1⟩ : ∃ W1, W1 = w1.alloc (.cells #[.slice aa' g.atoms.length ac', .slice ra' g.rules.length rc', .slice fa g.atoms.length fc, .slice ha g.atoms.length hc, .slice oa g.atoms.length oc] 57) := ⟨_, rfl⟩
  have HW1 := Lib.hid hW1
  have e0 : W1.cell? ⟨w1.heap.size, 2, none⟩ = some (.slice fa g.atoms.length fc) := by rw [hW1]; exact (Row.new w1 [_, _, _, _, _] _ rfl).cell (j := 2) (by simp)
  have hz2 : w1.heap.size + 1 ≤ W1.heap.size := by rw [hW1]; simp
  have hb12 : Below w1.heap.size w1 W1 := by rw [hW1]; exact Seq.way
  rw [← hW1]
  clear hW1
  go_loopw [4, 11] (fun o i wr => ∃ k : Nat, k ≤ g.atoms.length ∧ i = .int .i64 k ∧ Own intE (fun _ => False) (w1.heap.size+1) 3 wr o (truthTo g k) ∧ Below (w1.heap.size+1) W1 wr) (fun _ i _ => g.atoms.length - (intOf i).toNat)
  case atStart => exact ⟨0, Nat.zero_le _, rfl, Own.nil _ _ _ _ _, Below.refl _ _⟩
  case round =>
    obtain ⟨k, hk, rfl, hown, hbel⟩ := hrel
    have hb1r : Below w1.heap.size w1 wr := hb12.trans (hbel.mono (by omega))
    have hb0 : Below w.heap.size w wr := hb01.trans (hb1r.mono (by omega))
    have hsz : w1.heap.size + 1 ≤ wr.heap.size := by have := hbel.size; omega
    have hszl : w.heap.size < wr.heap.size := by omega
    have hszl1 : w1.heap.size < wr.heap.size := by omega
    have d0 := (hb1r.cell (p := ⟨w.heap.size, 0, none⟩) (by simp <;> omega)).trans hPc0
    have d1 := (hb1r.cell (p := ⟨w.heap.size, 1, none⟩) (by simp <;> omega)).trans hPc1
    have e1 := (hbel.cell (p := ⟨w1.heap.size, 2, none⟩) (by simp)).trans e0
    have hlen := truthTo_len g k
    have hlen1 : (truthTo g k).length ≤ 1000000000000 := by omega
    clear hlen
    by_cases hlt : k < g.atoms.length
    · have hgr := hg'.mono (T := S) (w' := wr) (fun _ h _ => h) fun b _ hb => hb0.block b hb
      have hsn := Lib.hid (truthTo_succ g k)
      have htv := Lib.hid (show truthOf g (k : Int) = if factB g k = true then 2 else if rulesB g k = true then 1 else 0 from rfl)
      obtain ⟨fb, fo, rfl, -, hfb, hfc⟩ := hf5.bool (k := k) (by omega)
      have hfc2 := (hb1r.cell (p := ⟨fb, fo + k, none⟩) hfb).trans hfc
      have hfx : (factsL g)[k]'(by omega) = factB g k := by simp [factsL]
      rw [hfx] at hfc2
      have hklen : (k : Int) < (g.atoms.length : Int) := by omega
      clear hfx hfc hf5 e0 hPc0 hPc1
      cases hfv : factB g k
      · rw [hfv] at hfc2
        have hf2 := Lib.hid (OfP_spec (at_ := (k : Int)) hgr hrl)
        have hrp := Lib.hid (ofL_pos (k : Int) g.rules)
        go_wp2_with fail
        refine hf2.out.mono ?_
        rintro e w2 ⟨ov, rfl, hb2, ho⟩
        obtain ⟨oa, oc, rfl, -⟩ := ho
        have hs2 := hb2.size
        obtain ⟨m, hm⟩ : ∃ m, m = (ofL (k : Int) g.rules).length := ⟨_, rfl⟩
        have Hm := Lib.hid hm
        rw [← hm]
        clear hm
        cases hrv : rulesB g k
        · have htv2 := Lib.hid (show truthOf g (k : Int) = 0 by rw [htv.out, hfv, hrv]; rfl)
          have hm0 : m = 0 := by
            have h1 := hrp.out
            rw [show (g.rules.any fun r => r.head == (k : Int)) = rulesB g k from rfl, hrv, ← Hm.out] at h1
            simpa using h1
          have hmb : ((m : Int) == 0) = true := by simp [hm0]
          clear hm0
          go_wp2_with (at_builtin; refine wpList_app_int rfl _ _ 24 rfl Try.underlying24 infoInt rfl hown rfl (y := 0) (hb2.alloc hs2 _) ?_ ?_ ?_ ?_ ?_)
          any_goals (first | exact ⟨by omega, by omega⟩ | omega | (go_simp; done))
          intro ao cap w' hown' hkept
          have hb5 := hbel.trans (((hb2.mono hsz).alloc (by omega) _).trans hkept.below)
          clear hown hkept
          go_wp2_with fail
          go_roundw
          case rel => exact ⟨k + 1, hlt, by go_num, by rw [hsn.out, htv2.out]; simpa using hown', hb5⟩
          case measure => simp [intOf]; omega
        · have htv2 := Lib.hid (show truthOf g (k : Int) = 1 by rw [htv.out, hfv, hrv]; rfl)
          have hm0 : 0 < m := by
            have h1 := hrp.out
            rw [show (g.rules.any fun r => r.head == (k : Int)) = rulesB g k from rfl, hrv, ← Hm.out] at h1
            simpa using h1
          have hmb : ((m : Int) == 0) = false := by rw [beq_eq_false_iff_ne]; omega
          clear hm0
          go_wp2_with (at_builtin; refine wpList_app_int rfl _ _ 24 rfl Try.underlying24 infoInt rfl hown rfl (y := 1) (hb2.alloc hs2 _) ?_ ?_ ?_ ?_ ?_)
          any_goals (first | exact ⟨by omega, by omega⟩ | omega | (go_simp; done))
          intro ao cap w' hown' hkept
          have hb5 := hbel.trans (((hb2.mono hsz).alloc (by omega) _).trans hkept.below)
          clear hown hkept
          go_wp2_with fail
          go_roundw
          case rel => exact ⟨k + 1, hlt, by go_num, by rw [hsn.out, htv2.out]; simpa using hown', hb5⟩
          case measure => simp [intOf]; omega
      · rw [hfv] at hfc2
        have htv2 := Lib.hid (show truthOf g (k : Int) = 2 by rw [htv.out, hfv]; rfl)
        go_wp2_with (at_builtin; refine wpList_app_int rfl _ _ 24 rfl Try.underlying24 infoInt rfl hown rfl (y := 2) Seq.way ?_ ?_ ?_ ?_ ?_)
        any_goals (first | exact ⟨by omega, by omega⟩ | omega | (go_simp; done))
        intro ao cap w' hown' hkept
        have hb5 := hbel.trans ((Seq.way (w := wr) (w' := wr.alloc (.cells #[.int .i64 2] 3)) (B := w1.heap.size + 1)).trans hkept.below)
        clear hown hkept
        go_wp2_with fail
        go_roundw
        case rel => exact ⟨k + 1, hlt, by go_num, by rw [hsn.out, htv2.out]; simpa using hown', hb5⟩
        case measure => simp [intOf]; omega
    · obtain rfl : k = g.atoms.length := by omega
      go_wp2_with fail
      go_ret
      refine ⟨_, rfl, hb0, ?_⟩
      rw [hfin.out]
      exact hown.seq (by rw [truthTo_len]; omega) fun b _ hb => hb.elim False.elim fun h => by omega
end Go.Proofs.Ytdbennmbbmoflaa
