/-
  Layer 18's reference: all that can be done.
-/
import Derived.Test.YtdbennmbbmoflaaResC
namespace Go.Proofs.Ytdbennmbbmoflaa
open Go Go.RowKit

/-- Those of one kind, of the first k rules. -/
def canRow (g : Prog) (f : List Bool) (kind : Int) (l : List Rule) : List (Int × Int) :=
  (l.zipIdx.filter fun p => 0 < (goneL g f kind p.1).length).map fun p => (kind, (p.2 : Int))
/-- Those of the first c kinds. -/
def canUpto (g : Prog) (f : List Bool) (c : Nat) : List (Int × Int) := (List.range c).flatMap fun j : Nat => canRow g f ((j : Int) + 1) g.rules
def canL (g : Prog) : List (Int × Int) := canUpto g (followsL g) 5

theorem canRow_snoc (g : Prog) (f : List Bool) (kind : Int) (l : List Rule) (k : Nat) (hk : k < l.length) :
    canRow g f kind (l.take (k+1)) = canRow g f kind (l.take k) ++ (if 0 < (goneL g f kind l[k]).length then [(kind, (k : Int))] else []) := by
  unfold canRow
  rw [List.take_succ_eq_append_getElem hk, List.zipIdx_append, List.filter_append, List.map_append]
  congr 1
  by_cases h : 0 < (goneL g f kind l[k]).length <;> simp [h, Nat.min_eq_left (Nat.le_of_lt hk)]

theorem canRow_len (g : Prog) (f : List Bool) (kind : Int) (l : List Rule) : (canRow g f kind l).length ≤ l.length := by
  unfold canRow
  have := List.length_filter_le (fun p : Rule × Nat => decide (0 < (goneL g f kind p.1).length)) l.zipIdx
  simpa using this

theorem canUpto_succ (g : Prog) (f : List Bool) (c : Nat) : canUpto g f (c + 1) = canUpto g f c ++ canRow g f ((c : Int) + 1) g.rules := by
  unfold canUpto; rw [List.range_succ, List.flatMap_append]; simp

theorem canUpto_len (g : Prog) (f : List Bool) : ∀ c, (canUpto g f c).length ≤ c * g.rules.length
  | 0 => by simp [canUpto]
  | c + 1 => by
    have := canUpto_len g f c
    have := canRow_len g f ((c : Int) + 1) g.rules
    rw [canUpto_succ, List.length_append, Nat.succ_mul]; omega

def canAt (g : Prog) (f : List Bool) (c k : Nat) : List (Int × Int) := canUpto g f c ++ canRow g f ((c : Int) + 1) (g.rules.take k)
theorem canAt_zero (g : Prog) (f : List Bool) (c : Nat) : canAt g f c 0 = canUpto g f c := by simp [canAt, canRow]
theorem canAt_all (g : Prog) (f : List Bool) (c : Nat) : canAt g f c g.rules.length = canUpto g f (c + 1) := by rw [canAt, List.take_length, canUpto_succ]
theorem canAt_len (g : Prog) (f : List Bool) (c k : Nat) (hc : c ≤ 5) : (canAt g f c k).length ≤ 6 * g.rules.length := by
  have h1 := canUpto_len g f c
  have h2 := canRow_len g f ((c : Int) + 1) (g.rules.take k)
  have h3 : c * g.rules.length ≤ 5 * g.rules.length := Nat.mul_le_mul_right _ hc
  rw [canAt, List.length_append]
  simp at h2
  omega
theorem canAt_yes (g : Prog) (f : List Bool) (c k : Nat) (hk : k < g.rules.length) (h : 0 < (goneL g f ((c : Int) + 1) g.rules[k]).length) : canAt g f c (k + 1) = canAt g f c k ++ [((c : Int) + 1, (k : Int))] := by
  rw [canAt, canRow_snoc _ _ _ _ _ hk, if_pos h, ← List.append_assoc]; rfl
theorem canAt_no (g : Prog) (f : List Bool) (c k : Nat) (hk : k < g.rules.length) (h : ¬ 0 < (goneL g f ((c : Int) + 1) g.rules[k]).length) : canAt g f c (k + 1) = canAt g f c k := by
  rw [canAt, canRow_snoc _ _ _ _ _ hk, if_neg h, List.append_nil]; rfl

theorem followsL_len {g : Prog} : (followsL g).length = g.atoms.length := by
  have : ∀ (f : Nat) (rs : List Rule) (out : List Bool), (followsGo f rs out).length = out.length := by
    intro f
    induction f with
    | zero => intro rs out; rfl
    | succ f ih => intro rs out; rw [followsGo_succ]; split <;> simp [ih, fpass_len]
  unfold followsL; rw [this]; simp

theorem infoPair : (Try.prog.info? 23).map (fun i => (i.zero, i.size, i.bytes)) = some (some (.agg #[.int .i64 0, .int .i64 0]), 2, 16) := by kernel_rfl

set_option maxHeartbeats 1600000 in
set_option maxRecDepth 100000 in
theorem CanR_spec {S : Nat → Prop} {w : World} {v : Value} {g : Prog} (hg : ProgV S w v g) (hgood : GoodP g) :
    Calls Try.prog 13 #[v] w (Ret (fun o w' => Seq pairE (fun b => w.heap.size ≤ b) w' o (canL g)) w) := by
  have hg' := hg
  obtain ⟨va, vb, rfl, hga, ⟨ra, rc, rfl, hrc, hrm, hrl, hrn, hr⟩⟩ := hg
  obtain ⟨f, hf⟩ : ∃ f, f = followsL g := ⟨_, rfl⟩
  have hfl := Lib.hid (show f.length = g.atoms.length by rw [hf]; exact followsL_len)
  have hfin := Lib.hid (show canL g = canUpto g f 5 by rw [hf]; rfl)
  obtain ⟨W0, hW0⟩ : ∃ W0, W0 = w.alloc (.cells #[va, .slice ra g.rules.length rc] 30) := ⟨_, rfl⟩
  have HW := Lib.hid hW0
  have hB0 : Below w.heap.size w W0 := by rw [hW0]; exact Seq.way
  have hs0 := Lib.hid (show W0.heap.size = w.heap.size + 1 by rw [hW0]; simp)
  have c0 : W0.cell? ⟨w.heap.size, 0, none⟩ = some va := by rw [hW0]; go_simp
  have c1 : W0.cell? ⟨w.heap.size, 1, none⟩ = some (.slice ra g.rules.length rc) := by rw [hW0]; go_simp
  have hg0 := hg'.mono (T := S) (w' := (w.alloc (.cells #[va, .slice ra g.rules.length rc] 30)).alloc (.cells #[] 23)) (fun _ h _ => h) fun b _ hb => (Seq.way (w := w) (w' := (w.alloc (.cells #[va, .slice ra g.rules.length rc] 30)).alloc (.cells #[] 23)) (B := w.heap.size)).block b hb
  clear hW0
  go_enter Try.func13, Try.ntmps13
  go_wp2_with fail
  refine (Follows_spec hg0 hgood).mono ?_
  rintro e w1 ⟨vf, rfl, hb1, hvf⟩
  rw [← hf] at hvf
  clear hf hg0
  obtain ⟨fa, fc, rfl, -⟩ := id hvf
  have hw1 : Below (w.heap.size + 1) W0 w1 := by rw [HW.out]; exact Below.trans Seq.way (hb1.mono (by simp))
  have hown1 : Own pairE (fun _ => False) (w.heap.size + 1) 23 w1 (.slice (some ⟨w.heap.size + 1, 0, none⟩) 0 0) (canUpto g f 0) := (Own.lit0 (by simp) (by simp) rfl).move hb1
  have hs1 : w.heap.size + 2 ≤ w1.heap.size := by simpa using hb1.size
  go_wp2_with fail
  have hout1 : ∀ b, (Value.slice (some ⟨w.heap.size + 1, 0, none⟩) 0 0).ownBlock = some b → b < w.heap.size + 2 ∨ w1.heap.size ≤ b := by
    intro b hb; simp [Value.ownBlock] at hb; omega
  go_loopw [3, 5] (fun o kd wr => ∃ c : Nat, c ≤ 5 ∧ kd = .int .i64 ((c : Int) + 1) ∧ Own pairE (fun _ => False) (w.heap.size + 1) 23 wr o (canUpto g f c) ∧ Below (w.heap.size+1) W0 wr ∧ Seq boolE (fun b => w.heap.size + 2 ≤ b ∧ b < w1.heap.size) wr (.slice fa f.length fc) f ∧ w1.heap.size ≤ wr.heap.size ∧ Hid (∀ b, o.ownBlock = some b → b < w.heap.size + 2 ∨ w1.heap.size ≤ b)) (fun _ kd _ => 6 - (intOf kd).toNat)
  case atStart =>
    exact ⟨0, by omega, rfl, hown1, hw1, hvf.mono (fun b hb hlt => ⟨by simpa using hb, hlt⟩) (fun _ _ _ => rfl), Nat.le_refl _, Lib.hid hout1⟩
  case round =>
    clear hown1 hw1 hout1
    obtain ⟨c, hc, rfl, hown, hbel, hvf', hws, hout⟩ := hrel
    have hb0 : Below w.heap.size w wr := hB0.trans (hbel.mono (by omega))
    by_cases hc5 : c < 5
    · obtain ⟨w2, rfl⟩ : ∃ w2, w2 = wr := ⟨_, rfl⟩
      have hcd : decide ((c : Int) + 1 ≤ 5) = true := by simp; omega
      go_wp2_with fail
      go_loopw [3, 6] (fun o i wr => ∃ k : Nat, k ≤ g.rules.length ∧ i = .int .i64 k ∧ Own pairE (fun _ => False) (w.heap.size + 1) 23 wr o (canAt g f c k) ∧ Below (w.heap.size+1) W0 wr ∧ Seq boolE (fun b => w.heap.size + 2 ≤ b ∧ b < w1.heap.size) wr (.slice fa f.length fc) f ∧ w1.heap.size ≤ wr.heap.size ∧ Hid (∀ b, o.ownBlock = some b → b < w.heap.size + 2 ∨ w1.heap.size ≤ b)) (fun _ i _ => g.rules.length - (intOf i).toNat)
      case atStart => exact ⟨0, Nat.zero_le _, rfl, by rw [canAt_zero]; exact hown, hbel, hvf', hws, hout⟩
      case round =>
        clear hown hbel hvf' hws hout hb0
        obtain ⟨k, hk, rfl, hown, hbel, hvf', hws, hout⟩ := hrel
        have hb0 : Below w.heap.size w wr := hB0.trans (hbel.mono (by omega))
        have d0 := (hbel.cell (p := ⟨w.heap.size, 0, none⟩) (by simp)).trans c0
        have d1 := (hbel.cell (p := ⟨w.heap.size, 1, none⟩) (by simp)).trans c1
        have hlen := canAt_len g f c k (by omega)
        have hrlen := hgood.rlen
        by_cases hlt : k < g.rules.length
        · obtain ⟨b, off, pa, pc, na, nc, rfl, hS, hb, h0, h1, h2, hok, hp, hn⟩ := (hr.below hb0 fun _ _ h => h).rule hlt
          have hgd := hgood.rules _ (List.getElem_mem hlt)
          have hgw : ProgV S wr.drew (.agg #[va, .slice (some ⟨b, off, none⟩) g.rules.length rc]) g := hg'.mono (fun _ h _ => h) fun b _ hb => hb0.block b hb
          have hyes := fun h => Lib.hid (canAt_yes g f c k hlt h)
          have hno := fun h => Lib.hid (canAt_no g f c k hlt h)
          have hT : ∀ b, b < wr.heap.size → S b → True := fun _ _ _ => trivial
          have hspec := gone_spec (S := fun _ => True) (kind := (c : Int) + 1) (r := g.rules[k]) (hgw.mono (fun _ _ _ => trivial) fun _ _ _ => rfl) (hvf'.mono (w' := wr.drew) (T := fun _ => True) (fun _ _ _ => trivial) fun _ _ _ => rfl) ⟨_, _, rfl, hok, hp.mono (w' := wr.drew) (fun _ _ _ => trivial) fun _ _ _ => rfl, hn.mono (w' := wr.drew) (fun _ _ _ => trivial) fun _ _ _ => rfl⟩ hrlen hgd.plen hgd.nlen (fun _ x hx => by rw [hfl.out]; exact hgd.pos x hx)
          have hspec := Lib.hid hspec
          clear hr hT c0 c1 hvf hg'
          go_wp2_with fail
          go_still_tail 8, (by kernel_rfl)
          go_wp2_with fail
          refine hspec.out.mono ?_
          rintro e w3 ⟨vo, rfl, hb3, hvo⟩
          obtain ⟨oa, oc, rfl, -⟩ := hvo
          obtain ⟨m, hm⟩ : ∃ m, m = (goneL g f ((c : Int) + 1) g.rules[k]).length := ⟨_, rfl⟩
          rw [← hm]
          rw [← hm] at hyes hno
          clear hm hspec
          have hw : Below wr.heap.size wr w3 := (Below.refl _ wr).drew.trans hb3
          have hsw := hw.size
          have hf3 : Seq boolE (fun b => w.heap.size + 2 ≤ b ∧ b < w1.heap.size) w3 (.slice fa f.length fc) f := hvf'.below hw fun _ _ h => h
          by_cases hmp : 0 < m
          · have hsn := hyes hmp
            clear hyes hno
            go_wp2_with (at_builtin; refine wpList_app_pair rfl _ _ 32 rfl Try.underlying32 infoPair rfl hown rfl (y := ((c : Int) + 1, (k : Int))) (hw.alloc hsw _) ?_ ?_ ?_ ?_ ?_ ?_ ?_)
            any_goals (first | exact ⟨by omega, by omega⟩ | omega | (go_simp; done) | (have := hbel.size; have := hs0.out; omega))
            · intro ao cap w' hown' hkept
              clear hown
              have hk1 := Lib.hid hkept
              have hbel' : Below (w.heap.size + 1) W0 w' := (hbel.trans ((hw.mono (by have := hbel.size; have := hs0.out; omega)).alloc (by have := hbel.size; have := hs0.out; omega) _)).trans hkept.below
              have hf4 : Seq boolE (fun b => w.heap.size + 2 ≤ b ∧ b < w1.heap.size) w' (.slice fa f.length fc) f := by
                refine (hf3.at (Seq.way (w' := w3.alloc _))).mono (fun _ h _ => h) fun b hb hlt => hkept.keep b hlt ?_
                intro he
                have := hout.out b he
                omega
              have hws' : w1.heap.size ≤ w'.heap.size := by have := hkept.below.size; simp at this; omega
              have hout' := Lib.hid (show ∀ b, (Value.slice ao ((canAt g f c k).length + 1) cap).ownBlock = some b → b < w.heap.size + 2 ∨ w1.heap.size ≤ b by
                intro b hb
                rcases hkept.blk with h | h
                · rw [h] at hb; exact hout.out b hb
                · rw [h] at hb; simp at hb; omega)
              clear hkept
              go_wp2_with fail
              go_roundw
              case rel => exact ⟨k + 1, hlt, by go_num, by rw [hsn.out]; simpa using hown', hbel', hf4, hws', hout'⟩
              case measure => simp [intOf]; omega
          · have hsn := hno hmp
            clear hyes hno
            go_wp2_with fail
            go_roundw
            case rel => exact ⟨k + 1, hlt, by go_num, by rw [hsn.out]; exact hown.move hw, hbel.trans (hw.mono (by have := hbel.size; have := hs0.out; omega)), hf3, by omega, hout⟩
            case measure => simp [intOf]; omega
        · obtain rfl : k = g.rules.length := by omega
          rw [canAt_all] at hown
          go_wp2_with fail
          go_roundw
          case rel => exact ⟨c + 1, by omega, by go_num, hown, hbel, hvf', hws, hout⟩
          case measure => simp [intOf]; omega
    · obtain rfl : c = 5 := by omega
      go_wp2_with fail
      go_ret
      refine ⟨_, rfl, hb0, ?_⟩
      rw [hfin.out]
      have := canUpto_len g f 5
      have := hgood.rlen
      exact hown.seq (by omega) fun b _ hb => hb.elim False.elim fun h => by omega
end Go.Proofs.Ytdbennmbbmoflaa
