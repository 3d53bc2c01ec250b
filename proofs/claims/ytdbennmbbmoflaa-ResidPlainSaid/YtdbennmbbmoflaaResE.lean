/-
  Layer 18's reference: rules in order, each once.
-/
import Derived.Test.YtdbennmbbmoflaaResA
import Derived.Test.YtdbennmbbmoflaaBaseB
import Derived.StillTailTactics
namespace Go.Proofs.Ytdbennmbbmoflaa
open Go Go.RowKit

def insAt (x : Rule) : List Rule → Nat
  | [] => 0
  | r :: l => if orderR r x < 0 then insAt x l + 1 else 0
def insR (out : List Rule) (x : Rule) : List Rule :=
  match out[insAt x out]? with
  | some r => if orderR r x = 0 then out else out.take (insAt x out) ++ [x] ++ out.drop (insAt x out)
  | none => out.take (insAt x out) ++ [x] ++ out.drop (insAt x out)
def rulesL (l : List Rule) : List Rule := l.foldl insR []

theorem insAt_le (x : Rule) : ∀ l : List Rule, insAt x l ≤ l.length
  | [] => Nat.le_refl _
  | r :: l => by
    have := insAt_le x l
    unfold insAt; split <;> simp <;> omega
theorem insAt_lt (x : Rule) : ∀ (l : List Rule) (j : Nat) (_ : j < insAt x l) (h : j < l.length), orderR l[j] x < 0
  | [], j, h, h' => by simp at h'
  | r :: l, j, h, h' => by
    unfold insAt at h
    split at h
    · cases j with
      | zero => assumption
      | succ j => exact insAt_lt x l j (by omega) (by simpa using h')
    · omega
theorem insAt_at (x : Rule) : ∀ (l : List Rule) (h : insAt x l < l.length), ¬ orderR l[insAt x l] x < 0
  | [], h => by simp at h
  | r :: l, h => by
    by_cases hr : orderR r x < 0
    · have e : insAt x (r :: l) = insAt x l + 1 := by simp [insAt, hr]
      have h' : insAt x l < l.length := by rw [e] at h; simpa using h
      have := insAt_at x l h'
      simp only [e, List.getElem_cons_succ]
      exact this
    · have e : insAt x (r :: l) = 0 := by simp [insAt, hr]
      simp only [e, List.getElem_cons_zero]
      exact hr
theorem insAt_step {x : Rule} {l : List Rule} {t : Nat} (h : t ≤ insAt x l) (ht : t < l.length) (ho : orderR l[t] x < 0) : t + 1 ≤ insAt x l := by
  rcases Nat.lt_or_eq_of_le h with h1 | h1
  · exact h1
  · subst h1; exact absurd ho (insAt_at x l ht)
theorem insAt_stop {x : Rule} {l : List Rule} {t : Nat} (h : t ≤ insAt x l) (ht : t < l.length) (ho : ¬ orderR l[t] x < 0) : t = insAt x l := by
  rcases Nat.lt_or_eq_of_le h with h1 | h1
  · exact absurd (insAt_lt x l t h1 ht) ho
  · exact h1

theorem rulesL_snoc (l : List Rule) (k : Nat) (hk : k < l.length) : rulesL (l.take (k + 1)) = insR (rulesL (l.take k)) l[k] := by
  unfold rulesL; rw [List.take_succ_eq_append_getElem hk, List.foldl_append]; rfl

theorem insR_len (out : List Rule) (x : Rule) : (insR out x).length ≤ out.length + 1 := by
  have := insAt_le x out
  unfold insR
  split
  · split
    · omega
    · simp; omega
  · simp; omega
theorem rulesL_len (l : List Rule) : (rulesL l).length ≤ l.length := by
  have : ∀ (l out : List Rule), (l.foldl insR out).length ≤ out.length + l.length := by
    intro l
    induction l with
    | nil => intro out; simp
    | cons x l ih =>
      intro out
      have h1 := ih (insR out x)
      have h2 := insR_len out x
      simp only [List.foldl_cons, List.length_cons]; omega
  have h := this l []
  simp only [List.length_nil, Nat.zero_add] at h
  exact h

theorem insR_new {out : List Rule} {x : Rule} {t : Nat} (ht : t = insAt x out) (h : ∀ r, out[t]? = some r → orderR r x ≠ 0) : insR out x = out.take t ++ [x] ++ out.drop t := by
  subst ht
  unfold insR
  split
  · rename_i r hr; rw [if_neg (h r hr)]
  · rfl
theorem insR_old {out : List Rule} {x : Rule} {t : Nat} (ht : t = insAt x out) {r : Rule} (hr : out[t]? = some r) (h : orderR r x = 0) : insR out x = out := by
  subst ht
  unfold insR
  rw [hr]; simp [h]

theorem infoRule : (Try.prog.info? 46).map (fun i => (i.zero, i.size, i.bytes)) = some (some (.agg #[.int .i64 0, .slice none 0 0, .slice none 0 0]), 3, 56) := by kernel_rfl

set_option maxHeartbeats 800000 in
set_option maxRecDepth 100000 in
theorem RulesL_spec {S : Nat → Prop} {w : World} {v : Value} {l : List Rule} (hl : Seq ruleE S w v l) (hlen : l.length ≤ 2000000000) :
    Calls Try.prog 25 #[v] w (Ret (fun o w' => Seq ruleE (Fr S w) w' o (rulesL l)) w) := by
  obtain ⟨la, lc, rfl, hl1, hl2, hl3, hl4, hl5⟩ := hl
  go_enter Try.func25, Try.ntmps25
  go_wp2_with fail
  go_loopw [3, 4] (fun o i wr => ∃ k : Nat, k ≤ l.length ∧ i = .int .i64 k ∧ Seq ruleE (Fr S w) wr o (rulesL (l.take k)) ∧ Below w.heap.size w wr) (fun _ i _ => l.length - (intOf i).toNat)
  case atStart =>
    refine ⟨0, Nat.zero_le _, rfl, ?_, Seq.way⟩
    exact (Own.lit0 (E := ruleE) (S := S) (base := w.heap.size) rfl (Nat.le_refl _) rfl).seq (by simp) fun b _ h => h
  case round =>
    obtain ⟨k, hk, rfl, hout, hbel⟩ := hrel
    by_cases hlt : k < l.length
    · have hos := rulesL_len (l.take k)
      have hsn := Lib.hid (rulesL_snoc l k hlt)
      obtain ⟨os, hos'⟩ : ∃ os, os = rulesL (l.take k) := ⟨_, rfl⟩
      rw [← hos'] at hout hos hsn
      clear hos'
      simp at hos
      obtain ⟨oa, oc, rfl, ho1, ho2, ho3, ho4, ho5⟩ := id hout
      obtain ⟨b, off, pa, pc, na, nc, rfl, hS, hb, h0, h1, h2, hok, hp, hn⟩ := (hl5.below hbel fun _ _ h => h).rule hlt
      have hxv : RuleV S wr (.agg #[.int .i64 l[k].head, .slice pa l[k].pos.length pc, .slice na l[k].neg.length nc]) l[k] := ⟨_, _, rfl, hok, hp, hn⟩
      clear hl5
      obtain ⟨w1, rfl⟩ : ∃ w1, w1 = wr := ⟨_, rfl⟩
      go_wp2_with fail
      go_loopw [5] (fun a wr => ∃ t : Nat, t ≤ os.length ∧ a = .int .i64 t ∧ Below w1.heap.size w1 wr ∧ Hid (t ≤ insAt l[k] os)) (fun a _ => os.length - (intOf a).toNat)
      case atStart => exact ⟨0, Nat.zero_le _, rfl, Below.refl _ _, Lib.hid (Nat.zero_le _)⟩
      case round =>
        obtain ⟨t, ht, rfl, hbel2, hti⟩ := hrel
        have d0 : wr.cell? ⟨b, off + k * 3, none⟩ = _ := (hbel2.cell (p := ⟨b, off + k * 3, none⟩) hb).trans h0
        have d1 : wr.cell? ⟨b, off + k * 3 + 1, none⟩ = _ := (hbel2.cell (p := ⟨b, off + k * 3 + 1, none⟩) hb).trans h1
        have d2 : wr.cell? ⟨b, off + k * 3 + 2, none⟩ = _ := (hbel2.cell (p := ⟨b, off + k * 3 + 2, none⟩) hb).trans h2
        have hbr : b < wr.heap.size := by have := hbel2.size; omega
        have hout2 := hout.at hbel2
        by_cases htt : t < os.length
        · obtain ⟨b', off', qa, qc, ra, rc, rfl, hS', hb', e0, e1, e2, hok', hq, hr⟩ := (ho5.below hbel2 fun _ _ h => h).rule htt
          have hyv : RuleV (Fr S w) wr.drew (.agg #[.int .i64 os[t].head, .slice qa os[t].pos.length qc, .slice ra os[t].neg.length rc]) os[t] := ⟨_, _, rfl, hok', hq, hr⟩
          have hxv2 : RuleV S wr.drew (.agg #[.int .i64 l[k].head, .slice pa l[k].pos.length pc, .slice na l[k].neg.length nc]) l[k] := ⟨_, _, rfl, hok, hp.at hbel2.drew, hn.at hbel2.drew⟩
          obtain ⟨od, hod⟩ : ∃ od, od = orderR os[t] l[k] := ⟨_, rfl⟩
          have hspec := Order_spec hyv hxv2
          rw [← hod] at hspec
          have hspec1 := Lib.hid hspec
          have hod' := Lib.hid hod
          clear hspec hod
          by_cases hneg : od < 0
          · have hnx := Lib.hid (insAt_step hti.out htt (by rw [← hod'.out]; exact hneg))
            go_wp2_with fail
            go_still_tail 13, (by kernel_rfl)
            go_wp2_with fail
            refine hspec1.out.mono ?_
            rintro e w3 ⟨rfl, hb3⟩
            go_wp2_with fail
            go_roundw
            case rel => exact ⟨t + 1, htt, by go_num, hbel2.trans ((Below.refl _ wr).drew.trans (hb3.mono hbel2.size)), hnx⟩
            case measure => simp [intOf]; omega
          · have hnx := Lib.hid (insAt_stop hti.out htt (by rw [← hod'.out]; exact hneg))
            go_wp2_with fail
            go_still_tail 13, (by kernel_rfl)
            go_wp2_with fail
            refine hspec1.out.mono ?_
            rintro e w3 ⟨rfl, hb3⟩
            have hb13 : Below wr.heap.size wr w3 := (Below.refl _ wr).drew.trans hb3
            have hsz3 := hb13.size
            have c0 : w3.cell? ⟨b, off + k * 3, none⟩ = _ := (hb13.cell (p := ⟨b, off + k * 3, none⟩) hbr).trans d0
            have c1 : w3.cell? ⟨b, off + k * 3 + 1, none⟩ = _ := (hb13.cell (p := ⟨b, off + k * 3 + 1, none⟩) hbr).trans d1
            have c2 : w3.cell? ⟨b, off + k * 3 + 2, none⟩ = _ := (hb13.cell (p := ⟨b, off + k * 3 + 2, none⟩) hbr).trans d2
            have g0 : w3.cell? ⟨b', off' + t * 3, none⟩ = _ := (hb13.cell (p := ⟨b', off' + t * 3, none⟩) hb').trans e0
            have g1 : w3.cell? ⟨b', off' + t * 3 + 1, none⟩ = _ := (hb13.cell (p := ⟨b', off' + t * 3 + 1, none⟩) hb').trans e1
            have g2 : w3.cell? ⟨b', off' + t * 3 + 2, none⟩ = _ := (hb13.cell (p := ⟨b', off' + t * 3 + 2, none⟩) hb').trans e2
            have hspec2 := Order_spec (w := w3.drew) (S := Fr S w) (T := S) (v := .agg #[.int .i64 os[t].head, .slice qa os[t].pos.length qc, .slice ra os[t].neg.length rc]) (u := .agg #[.int .i64 l[k].head, .slice pa l[k].pos.length pc, .slice na l[k].neg.length nc]) (a := os[t]) (b := l[k]) ⟨_, _, rfl, hok', hq.at hb13.drew, hr.at hb13.drew⟩ ⟨_, _, rfl, hok, (hp.at (hbel2.trans (hb13.mono hbel2.size).drew)), (hn.at (hbel2.trans (hb13.mono hbel2.size).drew))⟩
            rw [← hod'.out] at hspec2
            have hspec3 := Lib.hid hspec2
            clear hspec2 hyv hxv2
            have hbr3 : b < w3.heap.size := by omega
            have hbr3' : b' < w3.heap.size := by omega
            by_cases hz : od = 0
            · have hold := Lib.hid (insR_old hnx.out (List.getElem?_eq_getElem htt) (by rw [← hod'.out]; exact hz))
              go_wp2_with fail
              go_still_tail 13, (by kernel_rfl)
              go_wp2_with fail
              refine hspec3.out.mono ?_
              rintro e w4 ⟨rfl, hb4⟩
              go_wp2_with fail
              go_roundw
              case rel =>
                have hb14 : Below wr.heap.size wr w4 := hb13.trans ((Below.refl _ w3).drew.trans (hb4.mono hsz3))
                exact ⟨k + 1, hlt, by go_num, by rw [hsn.out, hold.out]; exact hout2.at hb14, hbel.trans ((hbel2.trans (hb14.mono hbel2.size)).mono hbel.size)⟩
              case measure => simp [intOf]; omega
            · have hnew := insR_new (out := os) (x := l[k]) (t := t) hnx.out (by intro r hr; rw [List.getElem?_eq_getElem htt] at hr; simp only [Option.some.injEq] at hr; rw [← hr, ← hod'.out]; exact hz)
              have hnew' := Lib.hid hnew
              clear hnew
              go_wp2_with fail
              go_still_tail 13, (by kernel_rfl)
              go_wp2_with fail
              refine hspec3.out.mono ?_
              rintro e w4 ⟨rfl, hb4⟩
              have hb14 : Below wr.heap.size wr w4 := hb13.trans ((Below.refl _ w3).drew.trans (hb4.mono hsz3))
              have hsz4 := hb14.size
              have hbW : Below w1.heap.size w1 w4 := hbel2.trans (hb14.mono hbel2.size)
              have houtW := hout2.at hb14
              have d0 : w4.cell? ⟨b, off + k * 3, none⟩ = _ := (hb14.cell (p := ⟨b, off + k * 3, none⟩) hbr).trans d0
              have d1 : w4.cell? ⟨b, off + k * 3 + 1, none⟩ = _ := (hb14.cell (p := ⟨b, off + k * 3 + 1, none⟩) hbr).trans d1
              have d2 : w4.cell? ⟨b, off + k * 3 + 2, none⟩ = _ := (hb14.cell (p := ⟨b, off + k * 3 + 2, none⟩) hbr).trans d2
              have hbr : b < w4.heap.size := by omega
              have hnew := hnew'.out
              clear c0 c1 c2 g0 g1 g2 e0 e1 e2
              obtain ⟨z1, hz1⟩ : ∃ z1, z1 = os.take t := ⟨_, rfl⟩
              obtain ⟨z3, hz3⟩ : ∃ z3, z3 = (z1 ++ [l[k]]) ++ os.drop t := ⟨_, rfl⟩
              have hl1 : z1.length ≤ os.length := by rw [hz1, List.length_take]; omega
              have hl3 : z3.length ≤ os.length + 1 := by rw [hz3, hz1]; simp only [List.length_append, List.length_take, List.length_drop, List.length_cons, List.length_nil]; omega
              have hinr := Lib.hid (show insR os l[k] = z3 by rw [hz3, hz1]; exact hnew)
              have hz1' := Lib.hid hz1
              have hz3' := Lib.hid hz3
              clear hz1 hz3 hnew
              have hs1 := (houtW.take ht).bnd
              have hs2 := fun bo hbo => (houtW.drop (i := t) ht (bo := bo) hbo rfl rfl).bnd
              have hxp := (hp.at hbW).bnd
              have hxn := (hn.at hbW).bnd
              have hszW : w.heap.size ≤ w4.heap.size := by have := hbel.size; have := hbW.size; omega
              have hS1 : ∀ (wz wy : World) b, (Fr S w b ∧ b < w4.heap.size) → b < wy.heap.size → Fr S w b ∧ (b < w4.heap.size ∨ wz.heap.size ≤ b) := fun _ _ b h _ => ⟨h.1, .inl h.2⟩
              have hS2 : ∀ (wz wy : World) b, (S b ∧ b < w4.heap.size) → b < wy.heap.size → Fr S w b ∧ (b < w4.heap.size ∨ wz.heap.size ≤ b) := fun _ _ b h _ => ⟨.inl h.1, .inl h.2⟩
              go_wp2_with (at_builtin; refine wpList_appL (E := ruleE) (S := Fr S w) (base := w4.heap.size) rfl (.tmp 48) (.tmp 51) 22 rfl Try.underlying22 infoRule rfl rfl (Own.lit0 ?_ ?_ rfl) (Below.refl _ _) rfl (hs1.below Seq.way fun _ h _ => h.2) ?_ hz1'.out (by omega) ?_ ?_ ?_)
              any_goals (first | exact hS1 _ _ | omega | (simp; done))
              intro ao1 cap1 w5 hown5 hk5
              have hb5 : Below w4.heap.size w4 w5 := Below.trans Seq.way hk5.below
              have hsz5 : w4.heap.size ≤ w5.heap.size := hb5.size
              have f0 : w5.cell? ⟨b, off + k * 3, none⟩ = _ := (hb5.cell (p := ⟨b, off + k * 3, none⟩) hbr).trans d0
              have f1 : w5.cell? ⟨b, off + k * 3 + 1, none⟩ = _ := (hb5.cell (p := ⟨b, off + k * 3 + 1, none⟩) hbr).trans d1
              have f2 : w5.cell? ⟨b, off + k * 3 + 2, none⟩ = _ := (hb5.cell (p := ⟨b, off + k * 3 + 2, none⟩) hbr).trans d2
              have hb5' := Lib.hid hb5
              clear hk5
              go_wp2_with (at_builtin; refine wpList_app_rule (S := Fr S w) (base := w4.heap.size) (y := l[k]) rfl (.tmp 53) (.tmp 58) 22 rfl Try.underlying22 infoRule rfl hown5 rfl Seq.way hok (hxp.below (hb5'.out.trans Seq.way) fun _ h _ => h.2) (hxn.below (hb5'.out.trans Seq.way) fun _ h _ => h.2) ?_ ?_ ?_ ?_ ?_ ?_ ?_)
              any_goals (first | exact hsz5 | exact hS2 _ _ | omega | (go_simp; done))
              intro ao2 cap2 w6 hown6 hk6
              have hb6 : Below w4.heap.size w4 w6 := hb5'.out.trans (Below.trans Seq.way hk6.below)
              have hsz6 : w4.heap.size ≤ w6.heap.size := hb6.size
              have hb6' := Lib.hid hb6
              clear hk6 hb6 hb5' f0 f1 f2
              go_wp2_with (at_builtin; refine wpList_appL (E := ruleE) (S := Fr S w) (base := w4.heap.size) rfl (.tmp 60) (.tmp 63) 22 rfl Try.underlying22 infoRule rfl rfl hown6 (Below.refl _ _) rfl ?_ (hS1 _ _) hz3'.out (by omega) ?_ ?_ ?_)
              all_goals first
                | exact (houtW.drop (i := t) ht (by first | exact (if_pos (by assumption)).symm | exact (if_neg (by assumption)).symm | (rw [if_neg (by omega)]; simp [Addr.add_lit, ruleE]; done)) (by omega) (by omega)).bnd.below hb6'.out fun _ h _ => h.2
                | omega
                | exact hsz6
                | (intro ao3 cap3 w7 hown7 hk7
                   have hb7 : Below w4.heap.size w4 w7 := hb6'.out.trans hk7.below
                   have hq := hown7.seq (T := Fr S w) (by omega) (fun b _ h => h.elim id fun h => .inr (by omega))
                   have hq' := Lib.hid hq
                   clear hk7 hown7 hq
                   go_wp2_with fail
                   go_roundw
                   case rel => exact ⟨k + 1, hlt, by go_num, by rw [hsn.out, hinr.out]; exact hq'.out, hbel.trans ((hbW.trans (hb7.mono hbW.size)).mono hbel.size)⟩
                   case measure => simp [intOf]; omega)
        · have hgd : decide (t < os.length) = false := by simpa using htt
          have hnew := insR_new (out := os) (x := l[k]) (t := t) (by have := hti.out; have := insAt_le l[k] os; omega) (by intro r hr; rw [List.getElem?_eq_none (by omega)] at hr; simp at hr)
          have houtW := hout2
          have hbW := hbel2
          have hrx := Lib.hid (rfl : 0 = 0)
          go_wp2_with fail
          go_quiet (fail)
          go_wp2_with fail
          go_quiet (fail)
          obtain ⟨z1, hz1⟩ : ∃ z1, z1 = os.take t := ⟨_, rfl⟩
          obtain ⟨z3, hz3⟩ : ∃ z3, z3 = (z1 ++ [l[k]]) ++ os.drop t := ⟨_, rfl⟩
          have hl1 : z1.length ≤ os.length := by rw [hz1, List.length_take]; omega
          have hl3 : z3.length ≤ os.length + 1 := by rw [hz3, hz1]; simp only [List.length_append, List.length_take, List.length_drop, List.length_cons, List.length_nil]; omega
          have hinr := Lib.hid (show insR os l[k] = z3 by rw [hz3, hz1]; exact hnew)
          have hz1' := Lib.hid hz1
          have hz3' := Lib.hid hz3
          clear hz1 hz3 hnew
          have hs1 := (houtW.take ht).bnd
          have hs2 := fun bo hbo => (houtW.drop (i := t) ht (bo := bo) hbo rfl rfl).bnd
          have hxp := (hp.at hbW).bnd
          have hxn := (hn.at hbW).bnd
          have hszW : w.heap.size ≤ wr.heap.size := by have := hbel.size; have := hbW.size; omega
          have hS1 : ∀ (wz wy : World) b, (Fr S w b ∧ b < wr.heap.size) → b < wy.heap.size → Fr S w b ∧ (b < wr.heap.size ∨ wz.heap.size ≤ b) := fun _ _ b h _ => ⟨h.1, .inl h.2⟩
          have hS2 : ∀ (wz wy : World) b, (S b ∧ b < wr.heap.size) → b < wy.heap.size → Fr S w b ∧ (b < wr.heap.size ∨ wz.heap.size ≤ b) := fun _ _ b h _ => ⟨.inl h.1, .inl h.2⟩
          go_wp2_with (at_builtin; refine wpList_appL (E := ruleE) (S := Fr S w) (base := wr.heap.size) rfl (.tmp 48) (.tmp 51) 22 rfl Try.underlying22 infoRule rfl rfl (Own.lit0 ?_ ?_ rfl) (Below.refl _ _) rfl (hs1.below Seq.way fun _ h _ => h.2) ?_ hz1'.out (by omega) ?_ ?_ ?_)
          any_goals (first | exact hS1 _ _ | omega | (simp; done))
          intro ao1 cap1 w5 hown5 hk5
          have hb5 : Below wr.heap.size wr w5 := Below.trans Seq.way hk5.below
          have hsz5 : wr.heap.size ≤ w5.heap.size := hb5.size
          have f0 : w5.cell? ⟨b, off + k * 3, none⟩ = _ := (hb5.cell (p := ⟨b, off + k * 3, none⟩) hbr).trans d0
          have f1 : w5.cell? ⟨b, off + k * 3 + 1, none⟩ = _ := (hb5.cell (p := ⟨b, off + k * 3 + 1, none⟩) hbr).trans d1
          have f2 : w5.cell? ⟨b, off + k * 3 + 2, none⟩ = _ := (hb5.cell (p := ⟨b, off + k * 3 + 2, none⟩) hbr).trans d2
          have hb5' := Lib.hid hb5
          clear hk5
          go_wp2_with (at_builtin; refine wpList_app_rule (S := Fr S w) (base := wr.heap.size) (y := l[k]) rfl (.tmp 53) (.tmp 58) 22 rfl Try.underlying22 infoRule rfl hown5 rfl Seq.way hok (hxp.below (hb5'.out.trans Seq.way) fun _ h _ => h.2) (hxn.below (hb5'.out.trans Seq.way) fun _ h _ => h.2) ?_ ?_ ?_ ?_ ?_ ?_ ?_)
          any_goals (first | exact hsz5 | exact hS2 _ _ | omega | (go_simp; done))
          intro ao2 cap2 w6 hown6 hk6
          have hb6 : Below wr.heap.size wr w6 := hb5'.out.trans (Below.trans Seq.way hk6.below)
          have hsz6 : wr.heap.size ≤ w6.heap.size := hb6.size
          have hb6' := Lib.hid hb6
          clear hk6 hb6 hb5' f0 f1 f2
          go_wp2_with (at_builtin; refine wpList_appL (E := ruleE) (S := Fr S w) (base := wr.heap.size) rfl (.tmp 60) (.tmp 63) 22 rfl Try.underlying22 infoRule rfl rfl hown6 (Below.refl _ _) rfl ?_ (hS1 _ _) hz3'.out (by omega) ?_ ?_ ?_)
          all_goals first
            | exact (houtW.drop (i := t) ht (by first | exact (if_pos (by assumption)).symm | exact (if_neg (by assumption)).symm | (rw [if_neg (by omega)]; simp [Addr.add_lit, ruleE]; done)) (by omega) (by omega)).bnd.below hb6'.out fun _ h _ => h.2
            | omega
            | exact hsz6
            | (intro ao3 cap3 w7 hown7 hk7
               have hb7 : Below wr.heap.size wr w7 := hb6'.out.trans hk7.below
               have hq := hown7.seq (T := Fr S w) (by omega) (fun b _ h => h.elim id fun h => .inr (by omega))
               have hq' := Lib.hid hq
               clear hk7 hown7 hq
               go_wp2_with fail
               go_roundw
               case rel => exact ⟨k + 1, hlt, by go_num, by rw [hsn.out, hinr.out]; exact hq'.out, hbel.trans ((hbW.trans (hb7.mono hbW.size)).mono hbel.size)⟩
               case measure => simp [intOf]; omega)
    · obtain rfl : k = l.length := by omega
      rw [List.take_length] at hout
      obtain ⟨oa, oc, rfl, -⟩ := id hout
      go_wp2_with fail
      go_ret
      exact ⟨_, rfl, hbel, hout⟩
end Go.Proofs.Ytdbennmbbmoflaa
