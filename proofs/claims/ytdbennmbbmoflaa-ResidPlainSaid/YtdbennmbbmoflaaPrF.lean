/-
  Layer 18, the program: all that can be done.
-/
import Derived.Test.YtdbennmbbmoflaaPrE
import Derived.Test.YtdbennmbbmoflaaPrC
import Derived.Laws.EntriesVeiled
namespace Go.Proofs.Ytdbennmbbmoflaa
open Go Go.RowKit

theorem side_spec {w : World} {p q : Nat} {x : Int} {neg goes : Bool} {pa na : Option Addr} {pl pc nl nc : Nat} :
    Calls Try.prog 37 #[.agg #[.func (.func 56) #[] #[.pointer (some ⟨p, 0, none⟩), .pointer (some ⟨q, 0, none⟩)], .bool neg, .bool goes], .agg #[.int .i64 x, .slice pa pl pc, .slice na nl nc]] w (RetV (if neg = true then .slice na nl nc else .slice pa pl pc) w) := by
  cases neg
  all_goals
    go_enter Try.func37, Try.ntmps37
    go_wp2_with fail
    go_ret
    exact ⟨rfl, Seq.way⟩

theorem any_gone (g : Prog) (f : List Bool) (kind : Int) (r : Rule) : (sideL kind r).any (isGone g f kind) = decide (0 < (goneL g f kind r).length) := by
  rw [Bool.eq_iff_iff, List.any_eq_true, decide_eq_true_eq]
  constructor
  · rintro ⟨x, h1, h2⟩
    exact List.length_pos_of_mem (goneL_mem.2 ⟨h1, h2⟩)
  · intro h
    obtain ⟨x, hx⟩ := List.exists_mem_of_length_pos h
    exact ⟨x, goneL_mem.1 hx⟩

set_option maxHeartbeats 1600000 in
theorem can_spec {S T : Nat → Prop} {w : World} {g : Prog} {p q j : Nat} {sv : Value} {r : Rule} {pa na : Option Addr} {pc nc : Nat} (hj : j < 5) (hI : IsBox w p q (kFn j) (kWant j)) (hs : StateV S w sv g)
    (hp : Seq intE T w (.slice pa r.pos.length pc) r.pos) (hn : Seq intE T w (.slice na r.neg.length nc) r.neg) (hg : GoodR g.atoms.length r) :
    Calls Try.prog 32 #[.agg #[.func (.func 56) #[] #[.pointer (some ⟨p, 0, none⟩), .pointer (some ⟨q, 0, none⟩)], .bool (kNeg j), .bool (kGoes j)], sv, .agg #[.int .i64 r.head, .slice pa r.pos.length pc, .slice na r.neg.length nc]] w
      (RetV (.bool (decide (0 < (goneL g (followsL g) ((j : Int) + 1) r).length))) w) := by
  obtain ⟨aa, ac, ra, rc, fa, fc, ha, hc, oa, oc, rfl⟩ := hs.shape
  have Hs := Lib.hid hs
  have hmf : ∀ (fn : Fn) (first cap : Array Value) (w : World), (Instr.makeFunc fn first cap).run Try.prog w = .ok (.func fn first cap) w := fun _ _ _ _ => rfl
  rw [← any_gone]
  obtain ⟨nv, hnv⟩ : ∃ nv, nv = kNeg j := ⟨_, rfl⟩
  have hside : sideL ((j : Int) + 1) r = if nv = true then r.neg else r.pos := by
    rw [hnv]; unfold sideL kNeg
    by_cases h : j = 0 ∨ j = 1
    · rw [if_pos (by omega), if_pos (by simp [h])]
    · rw [if_neg (by omega), if_neg (by simpa using h)]
  have Hside := Lib.hid hside
  have Hnv := Lib.hid hnv
  have hK : Row 63 (w.alloc (.cells #[isFn p q, .bool (kNeg j), .bool (kGoes j)] 63)) w.heap.size [isFn p q, .bool (kNeg j), .bool (kGoes j)] := Row.new _ _ _ rfl
  rw [← hnv] at hK ⊢
  clear hs hside hnv
  obtain ⟨gv, hgv⟩ : ∃ gv, gv = kGoes j := ⟨_, rfl⟩
  have Hgv := Lib.hid hgv
  rw [← hgv] at hK ⊢
  clear hgv
  have HK := Lib.hid hK
  clear hK
  go_enter Try.func32, Try.ntmps32
  go_wp2_with fail
  refine side_spec.mono ?_
  rintro e w1 ⟨rfl, hb1⟩
  have hb0 : Below w.heap.size w w1 := Below.trans Seq.way (hb1.mono (by simp <;> omega))
  have hclo : Clo S w1 g j w.heap.size (w.heap.size + 1) := by
    refine ⟨hj, p, q, _, _, _, _, _, ?_, hI.at hb0, ?_, Hs.out.at hb0⟩
    · rw [← Hnv.out, ← Hgv.out]
      exact ((HK.out.alloc _).alloc _).below hb1 (by simp <;> omega)
    · exact ((Row.new _ [_, _, _, _, _] _ (by simp)).alloc _).below hb1 (by simp <;> omega)
  have hp' := hp.at hb0
  have hn' := hn.at hb0
  cases nv
  · go_wp2_with fail
    refine (ContainsFunc_spec hp' hclo hg.pos).mono ?_
    rintro e w2 ⟨rfl, hb2⟩
    go_wp2_with fail
    go_ret
    exact ⟨by rw [Hside.out]; rfl, hb0.trans (hb2.mono hb0.size)⟩
  · go_wp2_with fail
    refine (ContainsFunc_spec hn' hclo hg.neg).mono ?_
    rintro e w2 ⟨rfl, hb2⟩
    go_wp2_with fail
    go_ret
    exact ⟨by rw [Hside.out]; rfl, hb0.trans (hb2.mono hb0.size)⟩

/-- The kind number j, out of all. -/
theorem kinds_at {h j : Nat} (hj : j < 5) (w : World) : (Instr.index 64 (kindsV h) (.int .i64 (j : Int))).run Try.prog w =
    .ok (.agg #[.func (.func 56) #[] #[.pointer (some ⟨h + 1 + 2 * j, 0, none⟩), .pointer (some ⟨h + 2 + 2 * j, 0, none⟩)], .bool (kNeg j), .bool (kGoes j)]) w := by
  rcases (show j = 0 ∨ j = 1 ∨ j = 2 ∨ j = 3 ∨ j = 4 by omega) with rfl | rfl | rfl | rfl | rfl
  all_goals kernel_rfl

set_option maxHeartbeats 4000000 in
set_option maxRecDepth 100000 in
theorem all_spec {S : Nat → Prop} {w : World} {g : Prog} {sv : Value} (hs : StateV S w sv g) (hgood : GoodP g) :
    Calls Try.prog 29 #[sv] w (Ret (fun o w' => Seq pairE (fun b => w.heap.size ≤ b) w' o (canL g)) w) := by
  have Hs := Lib.hid hs
  obtain ⟨aa, ac, ra, rc, fa, fc, ha, hc, oa, oc, rfl⟩ := hs.shape
  obtain ⟨_, _, _, _, _, he, ⟨_, _, he2, -, hr⟩, -⟩ := hs
  simp only [Value.agg.injEq, Array.mk.injEq, List.cons.injEq, and_true] at he he2
  obtain ⟨rfl, rfl, -⟩ := he
  obtain ⟨-, rfl⟩ := he2
  obtain ⟨_, _, hre, hrc, hrm, hrl, -, hr5⟩ := hr
  simp only [Value.slice.injEq, true_and] at hre
  obtain ⟨rfl, rfl⟩ := hre
  obtain ⟨f, hf⟩ : ∃ f, f = followsL g := ⟨_, rfl⟩
  have Hf := Lib.hid hf
  have hfin := Lib.hid (show canL g = canUpto g f 5 by rw [hf]; rfl)
  have hrlen := hgood.rlen
  clear hf
  go_enter Try.func29, Try.ntmps29
  go_wp2_with fail
  refine kinds_spec.mono ?_
  rintro e w1 ⟨kv, rfl, hb1, hkv, hK, hz1⟩
  have hS := Lib.hid ((Row.new w [.slice aa g.atoms.length ac, .slice ra g.rules.length rc, .slice fa g.atoms.length fc, .slice ha g.atoms.length hc, .slice oa g.atoms.length oc] 57 rfl).below hb1 (by simp))
  replace hkv : kv = kindsV (w.heap.size + 1) := by simpa using hkv
  subst hkv
  replace hK : KindsAt w1 (w.heap.size + 1) := by simpa using hK
  have HK := Lib.hid hK
  clear hK
  replace hz1 : w.heap.size + 12 ≤ w1.heap.size := by simp at hz1; omega
  have hbw1 : Below w.heap.size w w1 := Below.trans Seq.way (hb1.mono (by simp))
  have hw1 := hbw1.size
  have hS0 := hS.out.cell (j := 0) (by simp)
  have hS1 := hS.out.cell (j := 1) (by simp)
  have hS2 := hS.out.cell (j := 2) (by simp)
  have hS3 := hS.out.cell (j := 3) (by simp)
  have hS4 := hS.out.cell (j := 4) (by simp)
  simp only [List.getElem_cons_zero, List.getElem_cons_succ] at hS0 hS1 hS2 hS3 hS4
  have H0 := Lib.hid hS0
  have H1 := Lib.hid hS1
  have H2 := Lib.hid hS2
  have H3 := Lib.hid hS3
  have H4 := Lib.hid hS4
  clear hS0 hS1 hS2 hS3 hS4
  go_wp2_with fail
  go_loopw [3, 9] (fun o kd wr => ∃ c : Nat, c ≤ 5 ∧ kd = .int .i64 (c : Int) ∧ Own pairE (fun _ => False) w1.heap.size 23 wr o (canUpto g f c) ∧ Below w1.heap.size w1 wr) (fun _ kd _ => 5 - (intOf kd).toNat)
  case atStart => exact ⟨0, by omega, rfl, Own.nil _ _ _ _ _, Below.refl _ _⟩
  case round =>
    obtain ⟨c, hc5, rfl, hown, hbel⟩ := hrel
    have hsz := hbel.size
    by_cases hc : c < 5
    · have hix := fun w => kinds_at (h := w.heap.size + 1) hc w
      have hix : ∀ w', (Instr.index 64 (kindsV (w.heap.size + 1)) (.int .i64 (c : Int))).run Try.prog w' = .ok (.agg #[.func (.func 56) #[] #[.pointer (some ⟨w.heap.size + 1 + 1 + 2 * c, 0, none⟩), .pointer (some ⟨w.heap.size + 1 + 2 + 2 * c, 0, none⟩)], .bool (kNeg c), .bool (kGoes c)]) w' := fun w' => kinds_at hc w'
      have hcd : decide ((c : Int) < 5) = true := by simp; omega
      have s0 := (hbel.cell (p := ⟨w.heap.size, 0, none⟩) (by simp <;> omega)).trans H0.out
      have s1 := (hbel.cell (p := ⟨w.heap.size, 1, none⟩) (by simp <;> omega)).trans H1.out
      obtain ⟨w2, rfl⟩ : ∃ w2, w2 = wr := ⟨_, rfl⟩
      have hlt0 : w.heap.size < w2.heap.size := by omega
      go_wp2_with fail
      clear hix s0 s1
      have hout0 := Lib.hid (show ∀ b, u3.ownBlock = some b → b ≠ w2.heap.size by
        intro b hb; have := (hown.blk hb).2; omega)
      have hR0 : Row 63 (w2.alloc (.cells #[.func (.func 56) #[] #[.pointer (some ⟨w.heap.size + 1 + 1 + 2 * c, 0, none⟩), .pointer (some ⟨w.heap.size + 1 + 2 + 2 * c, 0, none⟩)], .bool (kNeg c), .bool (kGoes c)] 63)) w2.heap.size [.func (.func 56) #[] #[.pointer (some ⟨w.heap.size + 1 + 1 + 2 * c, 0, none⟩), .pointer (some ⟨w.heap.size + 1 + 2 + 2 * c, 0, none⟩)], .bool (kNeg c), .bool (kGoes c)] := Row.new _ _ _ rfl
      go_loopw [3, 17] (fun o i wr => ∃ k : Nat, k ≤ g.rules.length ∧ i = .int .i64 k ∧ Own pairE (fun _ => False) w1.heap.size 23 wr o (canAt g f c k) ∧ Below w1.heap.size w1 wr ∧ w2.heap.size < wr.heap.size ∧ Hid (∀ b, o.ownBlock = some b → b ≠ w2.heap.size) ∧
        Row 63 wr w2.heap.size [.func (.func 56) #[] #[.pointer (some ⟨w.heap.size + 1 + 1 + 2 * c, 0, none⟩), .pointer (some ⟨w.heap.size + 1 + 2 + 2 * c, 0, none⟩)], .bool (kNeg c), .bool (kGoes c)]) (fun _ i _ => g.rules.length - (intOf i).toNat)
      case atStart => exact ⟨0, Nat.zero_le _, rfl, by rw [canAt_zero]; exact hown.move Seq.way, hbel.alloc hsz _, by simp, hout0, hR0⟩
      case round =>
        clear hown hbel hout0 hR0 hsz
        obtain ⟨k, hk, rfl, hown, hbel, hs2, hout, hR⟩ := hrel
        have hsz := hbel.size
        have hlen := canAt_len g f c k (by omega)
        by_cases hlt : k < g.rules.length
        · have hwr := hbw1.trans (hbel.mono (by omega))
          obtain ⟨b, off, pa, pc, na, nc, rfl, hSb, hb, g0, g1, g2, hok, hp, hn⟩ := hr5.rule hlt
          have h0 := (hwr.cell (p := ⟨b, off + k * 3, none⟩) hb).trans g0
          have h1 := (hwr.cell (p := ⟨b, off + k * 3 + 1, none⟩) hb).trans g1
          have h2 := (hwr.cell (p := ⟨b, off + k * 3 + 2, none⟩) hb).trans g2
          clear g0 g1 g2
          have s0 := (hbel.cell (p := ⟨w.heap.size, 0, none⟩) (by simp <;> omega)).trans H0.out
          have s1 := (hbel.cell (p := ⟨w.heap.size, 1, none⟩) (by simp <;> omega)).trans H1.out
          have s2 := (hbel.cell (p := ⟨w.heap.size, 2, none⟩) (by simp <;> omega)).trans H2.out
          have s3 := (hbel.cell (p := ⟨w.heap.size, 3, none⟩) (by simp <;> omega)).trans H3.out
          have s4 := (hbel.cell (p := ⟨w.heap.size, 4, none⟩) (by simp <;> omega)).trans H4.out
          have k0 := hR.cell (j := 0) (by simp)
          have k1 := hR.cell (j := 1) (by simp)
          have k2 := hR.cell (j := 2) (by simp)
          simp only [List.getElem_cons_zero, List.getElem_cons_succ] at k0 k1 k2
          have hgd := hgood.rules _ (List.getElem_mem hlt)
          have hlt1 : w.heap.size < wr.heap.size := by omega
          have hwa : Below w.heap.size w (wr.alloc (.cells #[.int .i64 g.rules[k].head, .slice pa g.rules[k].pos.length pc, .slice na g.rules[k].neg.length nc] 46)) := hwr.alloc (by omega) _
          have hspec := can_spec hc ((HK.out c hc).at ((hbel.alloc hsz (.cells #[.int .i64 g.rules[k].head, .slice pa g.rules[k].pos.length pc, .slice na g.rules[k].neg.length nc] 46)))) (Hs.out.at hwa) (hp.at hwa) (hn.at hwa) hgd
          rw [← Hf.out] at hspec
          have hyes := fun h => Lib.hid (canAt_yes g f c k hlt h)
          have hno := fun h => Lib.hid (canAt_no g f c k hlt h)
          obtain ⟨m, hm⟩ : ∃ m, m = (goneL g f ((c : Int) + 1) g.rules[k]).length := ⟨_, rfl⟩
          rw [← hm] at hyes hno hspec
          have hspec := Lib.hid hspec
          clear hm hr5 hp hn
          go_wp2_with fail
          refine hspec.out.mono ?_
          rintro e w3 ⟨rfl, hb3⟩
          have hw3 : Below wr.heap.size wr w3 := Below.trans Seq.way (hb3.mono (by simp))
          have hsw := hw3.size
          by_cases hmp : 0 < m
          · have hsn := hyes hmp
            have hmd : decide (0 < m) = true := by simpa using hmp
            clear hyes hno
            go_wp2_with (at_builtin; refine wpList_app_pair rfl _ _ 32 rfl Try.underlying32 infoPair rfl hown rfl (y := ((c : Int) + 1, (k : Int))) (hw3.alloc hsw _) ?_ ?_ ?_ ?_ ?_ ?_ ?_)
            any_goals (first | exact ⟨by omega, by omega⟩ | omega | (go_simp; done))
            · intro ao cap w' hown' hkept
              clear hown
              have hbel' : Below w1.heap.size w1 w' := (hbel.trans ((hw3.mono hsz).alloc (by omega) _)).trans hkept.below
              have hRn : Row 63 w' w2.heap.size [.func (.func 56) #[] #[.pointer (some ⟨w.heap.size + 1 + 1 + 2 * c, 0, none⟩), .pointer (some ⟨w.heap.size + 1 + 2 + 2 * c, 0, none⟩)], .bool (kNeg c), .bool (kGoes c)] :=
                ((hR.below hw3 hs2).alloc _).at (hkept.keep _ (by simp <;> omega) (fun h => hout.out _ h rfl))
              have hws' : w2.heap.size < w'.heap.size := hRn.lt
              have hout' := Lib.hid (show ∀ b, (Value.slice ao ((canAt g f c k).length + 1) cap).ownBlock = some b → b ≠ w2.heap.size by
                intro b hb
                rcases hkept.blk with h | h
                · rw [h] at hb; exact hout.out b hb
                · rw [h] at hb; simp at hb; omega)
              clear hkept
              go_wp2_with fail
              go_roundw
              case rel => exact ⟨k + 1, hlt, by go_num, by rw [hsn.out]; simpa using hown', hbel', hws', hout', hRn⟩
              case measure => simp [intOf]; omega
          · have hsn := hno hmp
            have hmd : decide (0 < m) = false := by simpa using hmp
            clear hyes hno
            go_wp2_with fail
            go_roundw
            case rel => exact ⟨k + 1, hlt, by go_num, by rw [hsn.out]; exact hown.move hw3, hbel.trans (hw3.mono hsz), by omega, hout, hR.below hw3 hs2⟩
            case measure => simp [intOf]; omega
        · obtain rfl : k = g.rules.length := by omega
          rw [canAt_all] at hown
          go_wp2_with fail
          go_roundw
          case rel => exact ⟨c + 1, by omega, by go_num, hown, hbel⟩
          case measure => simp [intOf]; omega
    · obtain rfl : c = 5 := by omega
      go_wp2_with fail
      go_ret
      refine ⟨_, rfl, hbw1.trans (hbel.mono (by omega)), ?_⟩
      rw [hfin.out]
      have := canUpto_len g f 5
      exact hown.seq (by omega) fun b _ hb => hb.elim False.elim fun h => by omega
end Go.Proofs.Ytdbennmbbmoflaa
