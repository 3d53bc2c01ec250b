/-
  Layer 18's reference: what follows without Neg; all that can be done.
-/
import Derived.Test.YtdbennmbbmoflaaResB
import Derived.Deep.LoopGhost
namespace Go.Proofs.Ytdbennmbbmoflaa
open Go Go.RowKit

/-! ### Follows: plain -/
def allPos (out : List Bool) (l : List Int) : Bool := l.all fun p => out.getD p.toNat false
def fpStep (st : List Bool × Bool) (r : Rule) : List Bool × Bool :=
  if (allPos st.1 r.pos && !(st.1.getD r.head.toNat false)) = true then (st.1.set r.head.toNat true, true) else st
def fpass (rs : List Rule) (out : List Bool) : List Bool × Bool := rs.foldl fpStep (out, false)
def followsGo : Nat → List Rule → List Bool → List Bool
  | 0, _, out => out
  | f + 1, rs, out => if (fpass rs out).2 = true then followsGo f rs (fpass rs out).1 else (fpass rs out).1
def followsL (g : Prog) : List Bool := followsGo (g.atoms.length + 1) g.rules (List.replicate g.atoms.length false)

theorem fpStep_len (st : List Bool × Bool) (r : Rule) : (fpStep st r).1.length = st.1.length := by
  unfold fpStep; split <;> simp

theorem foldl_fpStep_len (rs : List Rule) : ∀ st : List Bool × Bool, (rs.foldl fpStep st).1.length = st.1.length := by
  induction rs with
  | nil => intro st; rfl
  | cons r rs ih => intro st; rw [List.foldl_cons, ih, fpStep_len]

theorem count_set_lt {out : List Bool} {i : Nat} (h : i < out.length) (hf : out[i] = false) : (out.set i true).count false + 1 = out.count false := by
  induction out generalizing i with
  | nil => simp at h
  | cons b out ih =>
    cases i with
    | zero => simp at hf; subst hf; simp
    | succ i =>
      have := ih (i := i) (by simpa using h) (by simpa using hf)
      cases b <;> simp <;> omega

theorem fpStep_count (st : List Bool × Bool) (r : Rule) (h : r.head.toNat < st.1.length) :
    ((fpStep st r) = st) ∨ ((fpStep st r).2 = true ∧ (fpStep st r).1.count false + 1 = st.1.count false) := by
  unfold fpStep
  split
  · rename_i hc
    right
    refine ⟨rfl, count_set_lt h ?_⟩
    simp only [Bool.and_eq_true, Bool.not_eq_true'] at hc
    have := hc.2
    rw [List.getD_eq_getElem?_getD, List.getElem?_eq_getElem h] at this
    simpa using this
  · left; rfl

theorem foldl_fpStep_count (rs : List Rule) : ∀ st : List Bool × Bool, (∀ r ∈ rs, r.head.toNat < st.1.length) →
    ((rs.foldl fpStep st) = st) ∨ ((rs.foldl fpStep st).2 = true ∧ (rs.foldl fpStep st).1.count false < st.1.count false) := by
  induction rs with
  | nil => intro st _; left; rfl
  | cons r rs ih =>
    intro st h
    rw [List.foldl_cons]
    have h1 := fpStep_count st r (h r (by simp))
    have h2 := ih (fpStep st r) (by intro q hq; rw [fpStep_len]; exact h q (by simp [hq]))
    rcases h1 with h1 | ⟨h1, h1'⟩
    · rw [h1] at h2 ⊢; exact h2
    · rcases h2 with h2 | ⟨h2, h2'⟩
      · right; rw [h2]; exact ⟨h1, by omega⟩
      · right; exact ⟨h2, by omega⟩

theorem fpass_cases (rs : List Rule) (out : List Bool) (h : ∀ r ∈ rs, r.head.toNat < out.length) :
    (fpass rs out = (out, false)) ∨ ((fpass rs out).2 = true ∧ (fpass rs out).1.count false < out.count false) := foldl_fpStep_count rs (out, false) h

theorem fpass_len (rs : List Rule) (out : List Bool) : (fpass rs out).1.length = out.length := foldl_fpStep_len rs _

theorem followsGo_succ (f : Nat) (rs : List Rule) (out : List Bool) : followsGo (f + 1) rs out = if (fpass rs out).2 = true then followsGo f rs (fpass rs out).1 else (fpass rs out).1 := rfl

/-- Enough rounds are enough. -/
theorem followsGo_more (rs : List Rule) : ∀ (f f' : Nat) (out : List Bool), (∀ r ∈ rs, r.head.toNat < out.length) → out.count false < f → out.count false < f' → followsGo f rs out = followsGo f' rs out := by
  intro f
  induction f with
  | zero => intro f' out _ h; omega
  | succ f ih =>
    intro f' out hh h h'
    cases f' with
    | zero => omega
    | succ f' =>
      simp only [followsGo]
      rcases fpass_cases rs out hh with hp | ⟨hp, hq⟩
      · simp [hp]
      · simp only [hp, if_true]
        exact ih f' _ (by rw [fpass_len]; exact hh) (by omega) (by omega)

/-- The rules' numbers are the program's. -/
structure GoodR (n : Nat) (r : Rule) : Prop where
  head : 0 ≤ r.head ∧ r.head < n
  pos : ∀ x ∈ r.pos, 0 ≤ x ∧ x < n
  neg : ∀ x ∈ r.neg, 0 ≤ x ∧ x < n
  plen : r.pos.length ≤ 1000000000
  nlen : r.neg.length ≤ 1000000000

structure GoodP (g : Prog) : Prop where
  rules : ∀ r ∈ g.rules, GoodR g.atoms.length r
  rlen : g.rules.length ≤ 1000000000
  alen : g.atoms.length ≤ 1000000000

theorem fpass_snoc (rs : List Rule) (st : List Bool × Bool) (k : Nat) (hk : k < rs.length) : (rs.take (k + 1)).foldl fpStep st = fpStep ((rs.take k).foldl fpStep st) rs[k] := by
  rw [List.take_succ_eq_append_getElem hk, List.foldl_append]; rfl

def allTo (out : List Bool) (l : List Int) (k : Nat) : Bool := allPos out (l.take k)
theorem allTo_zero (out : List Bool) (l : List Int) : allTo out l 0 = true := rfl
theorem allTo_succ (out : List Bool) (l : List Int) (k : Nat) (hk : k < l.length) : allTo out l (k + 1) = (allTo out l k && out.getD l[k].toNat false) := by
  unfold allTo allPos
  rw [List.take_succ_eq_append_getElem hk, List.all_append]; simp

theorem infoBool : (Try.prog.info? 4).map (fun i => (i.zero, i.size, i.bytes)) = some (some (.bool false), 1, 1) := by kernel_rfl

set_option maxHeartbeats 1600000 in
set_option maxRecDepth 100000 in
theorem Follows_spec {S : Nat → Prop} {w : World} {v : Value} {g : Prog} (hg : ProgV S w v g) (hgood : GoodP g) :
    Calls Try.prog 26 #[v] w (Ret (fun o w' => Seq boolE (fun b => w.heap.size ≤ b) w' o (followsL g)) w) := by
  obtain ⟨va, vb, rfl, ⟨aa, ac, rfl, hac, ham, hal, han, ha⟩, ⟨ra, rc, rfl, hrc, hrm, hrl, hrn, hr⟩⟩ := hg
  obtain ⟨rs, hrs⟩ : ∃ rs, rs = g.rules := ⟨_, rfl⟩
  obtain ⟨n, hn⟩ : ∃ n, n = g.atoms.length := ⟨_, rfl⟩
  have hgr : ∀ r ∈ rs, GoodR n r := by rw [hrs, hn]; exact hgood.rules
  have hrlen : rs.length ≤ 1000000000 := by rw [hrs]; exact hgood.rlen
  have hnlen : n ≤ 1000000000 := by rw [hn]; exact hgood.alen
  have hfin := Lib.hid (show followsL g = followsGo (n + 1) rs (List.replicate n false) by rw [hn, hrs]; rfl)
  rw [← hrs] at hrc hrl hr ⊢
  rw [← hn] at hac hal ⊢
  clear hgood hrs hn ha
  obtain ⟨W0, hW0⟩ : ∃ W0, W0 = w.alloc (.cells #[.slice aa n ac, .slice ra rs.length rc] 30) := ⟨_, rfl⟩
  have HW := Lib.hid hW0
  have hB0 : Below w.heap.size w W0 := by rw [hW0]; exact Seq.way
  have hs0 := Lib.hid (show W0.heap.size = w.heap.size + 1 by rw [hW0]; simp)
  have c1 : W0.cell? ⟨w.heap.size, 1, none⟩ = some (.slice ra rs.length rc) := by rw [hW0]; go_simp
  clear hW0
  have hmk := run_make_row' (P := Try.prog) 52 4 (.bool false) 1 Try.underlying52 infoBool rfl .i64 .i64 n (by omega) (by omega)
  go_enter Try.func26, Try.ntmps26
  go_wp2_with fail
  go_loopg [4] (n + 3) (fun q mv wr => ∃ outs more, mv = .bool more ∧ outs.length = n ∧ RowB 4 wr (w.heap.size + 1) outs ∧ Below (w.heap.size+1) W0 wr ∧
      Hid ((more = true → outs.count false + 2 ≤ q ∧ ∀ f, outs.count false < f → followsGo f rs outs = followsL g) ∧ (more = false → 1 ≤ q ∧ outs = followsL g)))
  case atStart =>
    refine ⟨List.replicate n false, true, rfl, by simp, RowB.made _ _ _ (by simp), by rw [HW.out]; exact Seq.way, Lib.hid ⟨fun _ => ⟨by simp, fun f hf => ?_⟩, by simp⟩⟩
    rw [hfin.out]
    refine followsGo_more rs _ _ _ ?_ hf (by simp)
    intro r hr
    have := (hgr r hr).head
    simp; omega
  case round =>
    obtain ⟨outs, more, rfl, hlen, hrow, hbel, hh⟩ := hrel
    have hb0 : Below w.heap.size w wr := hB0.trans (hbel.mono (by omega))
    have hsz : w.heap.size + 1 < wr.heap.size := hrow.lt
    cases more
    · have hres := Lib.hid (hh.out.2 rfl).2
      clear hh hmk
      go_wp2_with fail
      go_ret
      refine ⟨_, rfl, hb0, ?_⟩
      rw [← hres.out]
      exact hrow.seq hlen.symm (Nat.le_refl _) (by simp only [maxLen]; omega) (by omega) (by omega)
    · clear hmk
      obtain ⟨w1, rfl⟩ : ∃ w1, w1 = wr := ⟨_, rfl⟩
      go_wp2_with fail
      go_loopw [4, 5] (fun mv i wr => ∃ k : Nat, k ≤ rs.length ∧ i = .int .i64 k ∧ ∃ st : List Bool × Bool, Hid (st = (rs.take k).foldl fpStep (outs, false)) ∧ mv = .bool st.2 ∧ st.1.length = n ∧ RowB 4 wr (w.heap.size + 1) st.1 ∧ Below (w.heap.size+1) W0 wr) (fun _ i _ => rs.length - (intOf i).toNat)
      case atStart => exact ⟨0, Nat.zero_le _, rfl, (outs, false), Lib.hid rfl, rfl, hlen, hrow, hbel⟩
      case round =>
        clear hrow hbel hb0 hsz
        obtain ⟨k, hk, rfl, ⟨o1, m1⟩, hst, rfl, hlen1, hrow, hbel⟩ := hrel
        have hb0 : Below w.heap.size w wr := hB0.trans (hbel.mono (by omega))
        have hsz : w.heap.size + 1 < wr.heap.size := hrow.lt
        have d1 := (hbel.cell (p := ⟨w.heap.size, 1, none⟩) (by simp)).trans c1
        simp only at hlen1 hrow
        by_cases hlt : k < rs.length
        · obtain ⟨b, off, pa, pc, na, nc, rfl, hS, hb, h0, h1, h2, hok, hp, -⟩ := (hr.below hb0 fun _ _ h => h).rule hlt
          obtain ⟨l, hl⟩ : ∃ l, l = rs[k].pos := ⟨_, rfl⟩
          have hg1 := hgr rs[k] (List.getElem_mem hlt)
          have hst' := Lib.hid (fpass_snoc rs (outs, false) k hlt)
          clear hr c1
          obtain ⟨w2, rfl⟩ : ∃ w2, w2 = wr := ⟨_, rfl⟩
          obtain ⟨pa', pc', hpe, -, -, hpl, -, hpa⟩ := hp
          simp only [Value.slice.injEq] at hpe
          obtain ⟨rfl, -, rfl⟩ := hpe
          go_wp2_with fail
          go_loop [7, 8] (fun al i => ∃ m : Nat, m ≤ rs[k].pos.length ∧ i = .int .i64 m ∧ al = .bool (allTo o1 rs[k].pos m)) (fun _ i => rs[k].pos.length - (intOf i).toNat)
          case atStart => exact ⟨0, Nat.zero_le _, rfl, rfl⟩
          case round =>
            obtain ⟨m, hm, rfl, rfl⟩ := hrel
            by_cases hlm : m < rs[k].pos.length
            · obtain ⟨b', off', rfl, hS', hb', hc', -⟩ := hpa.int hlm
              have hx := hg1.pos _ (List.getElem_mem hlm)
              have hxn : (rs[k].pos[m]).toNat < o1.length := by omega
              have hx0 : 0 ≤ rs[k].pos[m] := hx.1
              have hx1 : rs[k].pos[m] < (n : Int) := hx.2
              have ho := Lib.hid (hrow.cell hxn)
              have ho2 : w2.cell? ⟨w.heap.size + 1, (rs[k].pos[m]).toNat, none⟩ = some (.bool (o1[(rs[k].pos[m]).toNat])) := ho.out
              have hs := Lib.hid (show allTo o1 rs[k].pos (m + 1) = (allTo o1 rs[k].pos m && o1[(rs[k].pos[m]).toNat]) by
                rw [allTo_succ _ _ _ hlm, List.getD_eq_getElem?_getD, List.getElem?_eq_getElem hxn]; rfl)
              clear hpa hg1
              cases hv : allTo o1 rs[k].pos m
              · have hs2 := Lib.hid (show allTo o1 rs[k].pos (m + 1) = false by rw [hs.out, hv]; rfl)
                go_wp2_with fail
                go_round
                case rel => exact ⟨m + 1, hlm, by go_num, by rw [hs2.out]⟩
                case measure => simp [intOf]; omega
              · have hs2 := Lib.hid (show allTo o1 rs[k].pos (m + 1) = o1[(rs[k].pos[m]).toNat] by rw [hs.out, hv]; rfl)
                go_wp2_with fail
                go_round
                case rel => exact ⟨m + 1, hlm, by go_num, by rw [hs2.out]⟩
                case measure => simp [intOf]; omega
            · obtain rfl : m = rs[k].pos.length := by omega
              have hal : allTo o1 rs[k].pos rs[k].pos.length = allPos o1 rs[k].pos := by unfold allTo; rw [List.take_length]
              rw [hal]
              have hx0 : 0 ≤ rs[k].head := hg1.head.1
              have hx1 : rs[k].head < (n : Int) := hg1.head.2
              have hxn : rs[k].head.toNat < o1.length := by omega
              have ho2 := hrow.cell hxn
              have hof := hrow.frozen rs[k].head.toNat
              have hgd : o1.getD rs[k].head.toNat false = o1[rs[k].head.toNat] := by rw [List.getD_eq_getElem?_getD, List.getElem?_eq_getElem hxn]; rfl
              clear hal hpa hg1
              cases hv : allPos o1 rs[k].pos
              · have hs2 := Lib.hid (show (rs.take (k + 1)).foldl fpStep (outs, false) = (o1, m1) by
                  rw [hst'.out, ← hst.out]; unfold fpStep; rw [if_neg (by simp [hv])])
                clear hgd
                go_wp2_with fail
                go_roundw
                case rel => exact ⟨k + 1, hlt, by go_num, (o1, m1), Lib.hid hs2.out.symm, rfl, hlen1, hrow.alloc _, Seq.way⟩
                case measure => simp [intOf]; omega
              · cases hu : o1[rs[k].head.toNat]
                · have hs2 := Lib.hid (show (rs.take (k + 1)).foldl fpStep (outs, false) = (o1.set rs[k].head.toNat true, true) by
                    rw [hst'.out, ← hst.out]; unfold fpStep; rw [if_pos (by simp only [hv, hgd, hu]; rfl)])
                  clear hgd
                  rw [hu] at ho2
                  go_wp2_with fail
                  go_roundw
                  case rel => exact ⟨k + 1, hlt, by go_num, (o1.set rs[k].head.toNat true, true), Lib.hid hs2.out.symm, rfl, by simpa using hlen1, (hrow.set _ _).alloc _, Below.alloc (Below.setCell hbel (Nat.le_refl _) _) (by rw [World.size_setCell]; omega) _⟩
                  case measure => simp [intOf]; omega
                · have hs2 := Lib.hid (show (rs.take (k + 1)).foldl fpStep (outs, false) = (o1, m1) by
                    rw [hst'.out, ← hst.out]; unfold fpStep; rw [if_neg (by simp only [hv, hgd, hu]; simp)])
                  clear hgd
                  rw [hu] at ho2
                  go_wp2_with fail
                  go_roundw
                  case rel => exact ⟨k + 1, hlt, by go_num, (o1, m1), Lib.hid hs2.out.symm, rfl, hlen1, hrow.alloc _, Seq.way⟩
                  case measure => simp [intOf]; omega
        · obtain rfl : k = rs.length := by omega
          have hst' : fpass rs outs = (o1, m1) := by rw [hst.out, List.take_length]; rfl
          have hcs := fpass_cases rs outs (by intro r hr'; have := (hgr r hr').head; omega)
          rw [hst'] at hcs
          have hcs := Lib.hid hcs
          have hst2 := Lib.hid hst'
          clear hst' hr c1
          have hhr : ∀ r ∈ rs, r.head.toNat < o1.length := by intro r hr'; have := (hgr r hr').head; omega
          clear hgr
          go_wp2_with fail
          have h2 := (hh.out.1 (by simp)).1
          go_roundg (gk - 1)
          case measure => omega
          case rel =>
            refine ⟨o1, m1, rfl, hlen1, hrow, hbel, Lib.hid ⟨fun hm => ?_, fun hm => ?_⟩⟩
            · subst hm
              rcases hcs.out with h | ⟨-, h⟩
              · simp at h
              · have h' : o1.count false < outs.count false := h
                refine ⟨by omega, fun f hf => ?_⟩
                have h3 := (hh.out.1 (by simp)).2 (f + outs.count false + 2) (by omega)
                rw [← h3]
                rw [followsGo_succ, hst2.out, if_pos rfl]
                exact followsGo_more rs _ _ _ hhr hf (by omega)
            · subst hm
              rcases hcs.out with h | ⟨h, -⟩
              · have h1 : o1 = outs := congrArg Prod.fst h
                refine ⟨by omega, ?_⟩
                have h3 := (hh.out.1 (by simp)).2 (outs.count false + 1) (by omega)
                rw [← h3]
                simp [followsGo, hst2.out]
              · simp at h
end Go.Proofs.Ytdbennmbbmoflaa
