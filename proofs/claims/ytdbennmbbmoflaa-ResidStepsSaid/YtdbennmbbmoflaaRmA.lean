/-
  Layer 17's reference: at, Any, All, Bools, Least.
-/
import Derived.Test.YtdbennmbbmoflaaResP
namespace Go.Proofs.Ytdbennmbbmoflaa
open Go Go.RowKit

def anyB (so : List Bool) (l : List Int) : Bool := l.any fun x => so.getD x.toNat false

theorem at_spec {S : Nat → Prop} {w : World} {v : Value} {l : List Bool} {i : Int} (hl : Seq boolE S w v l) (h0 : 0 ≤ i) :
    Calls Try.prog 79 #[v, .int .i64 i] w (PureV (.bool (l.getD i.toNat false)) w) := by
  obtain ⟨ao, cap, rfl, h1, h2, h3, h4, h5⟩ := hl
  by_cases hlt : i.toNat < l.length
  · obtain ⟨b, off, rfl, hS, hb, hc⟩ := h5.bool hlt
    have hi : i < (l.length : Int) := by omega
    have hd : l.getD i.toNat false = l[i.toNat] := by rw [List.getD_eq_getElem?_getD, List.getElem?_eq_getElem hlt]; rfl
    have Hd := Lib.hid hd
    clear h5 hd
    rw [Hd.out]
    go_enter Try.func79, Try.ntmps79
    go_wp2
    go_ret
    exact ⟨rfl, rfl⟩
  · have hi : ¬ i < (l.length : Int) := by omega
    have hd : l.getD i.toNat false = false := by rw [List.getD_eq_getElem?_getD, List.getElem?_eq_none (by omega)]; rfl
    have Hd := Lib.hid hd
    clear h5 hd
    rw [Hd.out]
    go_enter Try.func79, Try.ntmps79
    go_wp2
    go_ret
    exact ⟨rfl, rfl⟩

theorem Any_spec {S T : Nat → Prop} {w : World} {v u : Value} {so : List Bool} {l : List Int} (hs : Seq boolE S w v so) (hl : Seq intE T w u l) (h0 : ∀ x ∈ l, 0 ≤ x) :
    Calls Try.prog 73 #[v, u] w (PureV (.bool (anyB so l)) w) := by
  have Hs := Lib.hid hs
  obtain ⟨sa, sc, rfl, -⟩ := hs
  obtain ⟨ao, cap, rfl, h1, h2, h3, h4, h5⟩ := hl
  go_enter Try.func73, Try.ntmps73
  go_wp2_with fail
  go_loop [5] (fun i => ∃ k : Nat, k ≤ l.length ∧ i = .int .i64 k ∧ Hid (∀ x ∈ l.take k, so.getD x.toNat false = false)) (fun i => l.length - (intOf i).toNat)
  case atStart => exact ⟨0, Nat.zero_le _, rfl, Lib.hid (by simp)⟩
  case round =>
    obtain ⟨k, hk, rfl, hno⟩ := hrel
    by_cases hlt : k < l.length
    · obtain ⟨b, off, rfl, hS, hb, hc, -⟩ := h5.int hlt
      have hx := h0 _ (List.getElem_mem hlt)
      have hat := Lib.hid (at_spec Hs.out hx)
      clear h5 hx
      go_wp2_with fail
      refine hat.out.mono ?_
      rintro e w1 ⟨rfl, rfl⟩
      cases he : so.getD (l[k]).toNat false
      · go_wp2_with fail
        go_round
        case rel =>
          refine ⟨k + 1, hlt, by go_num, Lib.hid fun x hx => ?_⟩
          rw [List.take_succ_eq_append_getElem hlt] at hx
          rcases List.mem_append.1 hx with h | h
          · exact hno.out x h
          · simp at h; subst h; exact he
        case measure => simp [intOf]; omega
      · have hin := Lib.hid (show anyB so l = true by unfold anyB; exact List.any_eq_true.2 ⟨l[k], List.getElem_mem hlt, he⟩)
        go_wp2_with fail
        go_ret
        exact ⟨ret_bool hin.out.symm, rfl⟩
    · obtain rfl : k = l.length := by omega
      rw [List.take_length] at hno
      have hin := Lib.hid (show anyB so l = false by unfold anyB; rw [List.any_eq_false]; exact fun x hx => by rw [hno.out x hx]; simp)
      go_wp2_with fail
      go_ret
      exact ⟨ret_bool hin.out.symm, rfl⟩

theorem All_spec {S T : Nat → Prop} {w : World} {v u : Value} {so : List Bool} {l : List Int} (hs : Seq boolE S w v so) (hl : Seq intE T w u l) (h0 : ∀ x ∈ l, 0 ≤ x) :
    Calls Try.prog 74 #[v, u] w (PureV (.bool (allPos so l)) w) := by
  have Hs := Lib.hid hs
  obtain ⟨sa, sc, rfl, -⟩ := hs
  obtain ⟨ao, cap, rfl, h1, h2, h3, h4, h5⟩ := hl
  go_enter Try.func74, Try.ntmps74
  go_wp2_with fail
  go_loop [5] (fun i => ∃ k : Nat, k ≤ l.length ∧ i = .int .i64 k ∧ Hid (∀ x ∈ l.take k, so.getD x.toNat false = true)) (fun i => l.length - (intOf i).toNat)
  case atStart => exact ⟨0, Nat.zero_le _, rfl, Lib.hid (by simp)⟩
  case round =>
    obtain ⟨k, hk, rfl, hno⟩ := hrel
    by_cases hlt : k < l.length
    · obtain ⟨b, off, rfl, hS, hb, hc, -⟩ := h5.int hlt
      have hx := h0 _ (List.getElem_mem hlt)
      have hat := Lib.hid (at_spec Hs.out hx)
      clear h5 hx
      go_wp2_with fail
      refine hat.out.mono ?_
      rintro e w1 ⟨rfl, rfl⟩
      cases he : so.getD (l[k]).toNat false
      · have hin := Lib.hid (show allPos so l = false by
          unfold allPos
          rw [List.all_eq_false]
          exact ⟨l[k], List.getElem_mem hlt, by rw [he]; simp⟩)
        go_wp2_with fail
        go_ret
        exact ⟨ret_bool hin.out.symm, rfl⟩
      · go_wp2_with fail
        go_round
        case rel =>
          refine ⟨k + 1, hlt, by go_num, Lib.hid fun x hx => ?_⟩
          rw [List.take_succ_eq_append_getElem hlt] at hx
          rcases List.mem_append.1 hx with h | h
          · exact hno.out x h
          · simp at h; subst h; exact he
        case measure => simp [intOf]; omega
    · obtain rfl : k = l.length := by omega
      rw [List.take_length] at hno
      have hin := Lib.hid (show allPos so l = true by unfold allPos; rw [List.all_eq_true]; exact hno.out)
      go_wp2_with fail
      go_ret
      exact ⟨ret_bool hin.out.symm, rfl⟩

theorem Bools_spec {S T : Nat → Prop} {w : World} {v u : Value} {a b : List Bool} (ha : Seq boolE S w v a) (hb : Seq boolE T w u b) (hlen : a.length = b.length) :
    Calls Try.prog 54 #[v, u] w (QuietV (.bool (decide (a = b))) w) := by
  obtain ⟨ao, cap, rfl, -, -, h3, -, h5⟩ := ha
  obtain ⟨bo, bcap, rfl, -, -, -, -, g5⟩ := hb
  have hne : ((a.length : Int) != (b.length : Int)) = false := by simp [hlen]
  go_enter Try.func54, Try.ntmps54
  go_wp2_with fail
  go_loopw [5] (fun i wr => ∃ k : Nat, k ≤ a.length ∧ i = .int .i64 k ∧ Hid (∀ j, j < k → a[j]? = b[j]?) ∧ Drew w wr) (fun i _ => a.length - (intOf i).toNat)
  case atStart => exact ⟨0, Nat.zero_le _, rfl, Lib.hid (by simp), Drew.refl _⟩
  case round =>
    obtain ⟨k, hk, rfl, hno, hdr⟩ := hrel
    obtain ⟨m, rfl⟩ := hdr
    by_cases hlt : k < a.length
    · have hlt' : k < b.length := by omega
      obtain ⟨ab, aof, rfl, hS, hab, hc⟩ := h5.bool hlt
      obtain ⟨bb, bof, rfl, hS', hbb, hd⟩ := g5.bool hlt'
      have hkl : (k : Int) < (a.length : Int) := by omega
      have hkb : (k : Int) < (b.length : Int) := by omega
      clear h5 g5
      cases hx : a[k] <;> cases hy : b[k]
      · have He := Lib.hid (show a[k] = false from hx)
        have Hf := Lib.hid (show b[k] = false from hy)
        rw [hx] at hc
        rw [hy] at hd
        clear hx hy
        go_wp2_with fail
        go_quiet (fail)
        go_wp2_with fail
        go_roundw
        case rel =>
          refine ⟨k + 1, hlt, by go_num, Lib.hid fun j hj => ?_, (by repeat (first | exact Drew.of _ _ | refine Drew.drewN ?_ _))⟩
          rcases Nat.lt_or_ge j k with h | h
          · exact hno.out j h
          · obtain rfl : j = k := by omega
            rw [List.getElem?_eq_getElem hlt, List.getElem?_eq_getElem hlt', He.out, Hf.out]
        case measure => simp [intOf]; omega
      · have He := Lib.hid (show a[k] = false from hx)
        have Hf := Lib.hid (show b[k] = true from hy)
        rw [hx] at hc
        rw [hy] at hd
        clear hx hy
        have hr := Lib.hid (show decide (a = b) = false from decide_eq_false fun e => by
          have h1 := He.out
          have h2 := Hf.out
          subst e
          rw [h1] at h2
          cases h2)
        go_wp2_with fail
        go_quiet (fail)
        go_wp2_with fail
        go_ret
        exact ⟨ret_bool hr.out.symm, (by repeat (first | exact Drew.of _ _ | refine Drew.drewN ?_ _))⟩
      · have He := Lib.hid (show a[k] = true from hx)
        have Hf := Lib.hid (show b[k] = false from hy)
        rw [hx] at hc
        rw [hy] at hd
        clear hx hy
        have hr := Lib.hid (show decide (a = b) = false from decide_eq_false fun e => by
          have h1 := He.out
          have h2 := Hf.out
          subst e
          rw [h1] at h2
          cases h2)
        go_wp2_with fail
        go_quiet (fail)
        go_wp2_with fail
        go_ret
        exact ⟨ret_bool hr.out.symm, (by repeat (first | exact Drew.of _ _ | refine Drew.drewN ?_ _))⟩
      · have He := Lib.hid (show a[k] = true from hx)
        have Hf := Lib.hid (show b[k] = true from hy)
        rw [hx] at hc
        rw [hy] at hd
        clear hx hy
        go_wp2_with fail
        go_quiet (fail)
        go_wp2_with fail
        go_roundw
        case rel =>
          refine ⟨k + 1, hlt, by go_num, Lib.hid fun j hj => ?_, (by repeat (first | exact Drew.of _ _ | refine Drew.drewN ?_ _))⟩
          rcases Nat.lt_or_ge j k with h | h
          · exact hno.out j h
          · obtain rfl : j = k := by omega
            rw [List.getElem?_eq_getElem hlt, List.getElem?_eq_getElem hlt', He.out, Hf.out]
        case measure => simp [intOf]; omega
    · obtain rfl : k = a.length := by omega
      have hr := Lib.hid (show decide (a = b) = true from decide_eq_true (List.ext_getElem? fun j => by
        rcases Nat.lt_or_ge j a.length with h | h
        · exact hno.out j h
        · rw [List.getElem?_eq_none h, List.getElem?_eq_none (by omega)]))
      clear h5 g5
      go_wp2_with fail
      go_ret
      exact ⟨ret_bool hr.out.symm, (by repeat (first | exact Drew.of _ _ | refine Drew.drewN ?_ _))⟩

/-! ### Least -/
/-- The rules no Neg of which is so. -/
def keepN (so : List Bool) (rs : List Rule) : List Rule := rs.filter fun r => !anyB so r.neg
def leastL (g : Prog) (so : List Bool) : List Bool := followsL ⟨g.atoms, keepN so g.rules⟩
def lpStep (so : List Bool) (st : List Bool × Bool) (r : Rule) : List Bool × Bool := if anyB so r.neg = true then st else fpStep st r
theorem lp_fold (so : List Bool) : ∀ (rs : List Rule) (st : List Bool × Bool), (keepN so rs).foldl fpStep st = rs.foldl (lpStep so) st
  | [], _ => rfl
  | r :: rs, st => by
    unfold keepN
    rw [List.filter_cons]
    cases h : anyB so r.neg
    · simp only [Bool.not_false, if_true, List.foldl_cons]
      rw [show lpStep so st r = fpStep st r by unfold lpStep; rw [h]; rfl]
      exact lp_fold so rs _
    · simp only [Bool.not_true, Bool.false_eq_true, if_false, List.foldl_cons]
      rw [show lpStep so st r = st by unfold lpStep; rw [h]; rfl]
      exact lp_fold so rs st
theorem lp_snoc (so : List Bool) (rs : List Rule) (st : List Bool × Bool) (k : Nat) (hk : k < rs.length) : (rs.take (k + 1)).foldl (lpStep so) st = lpStep so ((rs.take k).foldl (lpStep so) st) rs[k] := by
  rw [List.take_succ_eq_append_getElem hk, List.foldl_append]; rfl
theorem least_der {g : Prog} (hg : GoodP g) {so : List Bool} {a : Int} (h0 : 0 ≤ a) : (leastL g so).getD a.toNat false = true ↔ Der g.rules (fun x => so.getD x.toNat false = true) a := by
  have hg' : GoodP ⟨g.atoms, keepN so g.rules⟩ := ⟨fun r hr => hg.rules r (List.mem_filter.1 hr).1, Nat.le_trans (List.length_filter_le _ _) hg.rlen, hg.alen⟩
  unfold leastL
  rw [follows_iff hg' h0]
  constructor
  · intro h
    unfold Fol at h
    induction h with
    | mk r hr _ _ ih =>
      have hr' := List.mem_filter.1 hr
      refine .mk r hr'.1 (fun x hx hs => ?_) fun x hx => ih x hx ((hg.rules r hr'.1).pos x hx).1
      have : anyB so r.neg = true := List.any_eq_true.2 ⟨x, hx, hs⟩
      rw [this] at hr'
      simp at hr'
  · intro h
    induction h with
    | mk r hr hn _ ih =>
      refine .mk r (List.mem_filter.2 ⟨hr, ?_⟩) (fun _ _ h => h) fun x hx => ih x hx ((hg.rules r hr).pos x hx).1
      have : anyB so r.neg = false := by
        unfold anyB
        rw [List.any_eq_false]
        exact fun x hx h => hn x hx h
      rw [this]; rfl
theorem followsGo_len (rs : List Rule) : ∀ (f : Nat) (out : List Bool), (followsGo f rs out).length = out.length
  | 0, _ => rfl
  | f + 1, out => by
    rw [followsGo_succ]
    split
    · rw [followsGo_len rs f, fpass_len]
    · rw [fpass_len]
theorem least_len (g : Prog) (so : List Bool) : (leastL g so).length = g.atoms.length := by
  unfold leastL followsL
  rw [followsGo_len]; simp
set_option maxHeartbeats 1600000 in
set_option maxRecDepth 100000 in
theorem Least_spec {S T : Nat → Prop} {w : World} {v u : Value} {g : Prog} {so : List Bool} (hg : ProgV S w v g) (hgood : GoodP g) (hso : Seq boolE T w u so) :
    Calls Try.prog 53 #[v, u] w (Ret (fun o w' => Seq boolE (fun b => w.heap.size ≤ b) w' o (leastL g so)) w) := by
  obtain ⟨va, vb, rfl, ⟨aa, ac, rfl, hac, ham, hal, han, ha⟩, ⟨ra, rc, rfl, hrc, hrm, hrl, hrn, hr⟩⟩ := hg
  obtain ⟨rs, hrs⟩ : ∃ rs, rs = g.rules := ⟨_, rfl⟩
  obtain ⟨n, hn⟩ : ∃ n, n = g.atoms.length := ⟨_, rfl⟩
  have hgr : ∀ r ∈ rs, GoodR n r := by rw [hrs, hn]; exact hgood.rules
  have hrlen : rs.length ≤ 1000000000 := by rw [hrs]; exact hgood.rlen
  have hnlen : n ≤ 1000000000 := by rw [hn]; exact hgood.alen
  have hgk : ∀ r ∈ keepN so rs, r.head.toNat < n := fun r hr => by have := (hgr r (List.mem_filter.1 hr).1).head; omega
  have hfin := Lib.hid (show leastL g so = followsGo (n + 1) (keepN so rs) (List.replicate n false) by rw [hn, hrs]; rfl)
  have HSO := Lib.hid hso
  obtain ⟨sa, sc, rfl, -⟩ := hso
  rw [← hrs] at hrc hrl hr ⊢
  rw [← hn] at hac hal ⊢
  clear hgood hrs hn ha
  obtain ⟨W0, hW0⟩ : ∃ W0, W0 = w.alloc (.cells #[.slice aa n ac, .slice ra rs.length rc] 30) := ⟨_, rfl⟩
  have HW := Lib.hid hW0
  have hB0 : Below w.heap.size w W0 := by rw [hW0]; exact Seq.way
  have hs0 := Lib.hid (show W0.heap.size = w.heap.size + 1 by rw [hW0]; simp)
  have c1 : W0.cell? ⟨w.heap.size, 1, none⟩ = some (.slice ra rs.length rc) := by rw [hW0]; go_simp
  clear hW0
  have hmk := run_make_row' (P := Try.prog) 52 4 (.bool false) 1 Try.underlying52 infoBool rfl .i64 .i64 n (by omega) (by omega)
  go_enter Try.func53, Try.ntmps53
  go_wp2_with fail
  go_loopg [6] (n + 3) (fun q mv wr => ∃ outs more, mv = .bool more ∧ outs.length = n ∧ RowB 4 wr (w.heap.size + 1) outs ∧ Below (w.heap.size+1) W0 wr ∧
      Hid ((more = true → outs.count false + 2 ≤ q ∧ ∀ f, outs.count false < f → followsGo f (keepN so rs) outs = leastL g so) ∧ (more = false → 1 ≤ q ∧ outs = leastL g so)))
  case atStart =>
    refine ⟨List.replicate n false, true, rfl, by simp, RowB.made _ _ _ (by simp), by rw [HW.out]; exact Seq.way, Lib.hid ⟨fun _ => ⟨by simp, fun f hf => ?_⟩, by simp⟩⟩
    rw [hfin.out]
    exact followsGo_more _ _ _ _ (fun r hr => by simpa using hgk r hr) hf (by simp)
  case round =>
    obtain ⟨outs, more, rfl, hlen, hrow, hbel, hh⟩ := hrel
    have hb0 : Below w.heap.size w wr := hB0.trans (hbel.mono (by omega))
    have hsz : w.heap.size + 1 < wr.heap.size := hrow.lt
    cases more
    · have hres := Lib.hid (hh.out.2 rfl).2
      clear hh hmk
      go_wp2_with fail
      go_ret
      refine ⟨_, rfl, hb0, ?_⟩
      rw [← hres.out]
      exact hrow.seq hlen.symm (Nat.le_refl _) (by simp only [maxLen]; omega) (by omega) (by omega)
    · clear hmk
      obtain ⟨w1, rfl⟩ : ∃ w1, w1 = wr := ⟨_, rfl⟩
      go_wp2_with fail
      go_loopw [6, 7] (fun mv i wr => ∃ k : Nat, k ≤ rs.length ∧ i = .int .i64 k ∧ ∃ st : List Bool × Bool, Hid (st = (rs.take k).foldl (lpStep so) (outs, false)) ∧ mv = .bool st.2 ∧ st.1.length = n ∧ RowB 4 wr (w.heap.size + 1) st.1 ∧ Below (w.heap.size+1) W0 wr) (fun _ i _ => rs.length - (intOf i).toNat)
      case atStart => exact ⟨0, Nat.zero_le _, rfl, (outs, false), Lib.hid rfl, rfl, hlen, hrow, hbel⟩
      case round =>
        clear hrow hbel hb0 hsz
        obtain ⟨k, hk, rfl, ⟨o1, m1⟩, hst, rfl, hlen1, hrow, hbel⟩ := hrel
        have hb0 : Below w.heap.size w wr := hB0.trans (hbel.mono (by omega))
        have hsz : w.heap.size + 1 < wr.heap.size := hrow.lt
        have d1 := (hbel.cell (p := ⟨w.heap.size, 1, none⟩) (by simp)).trans c1
        simp only at hlen1 hrow
        by_cases hlt : k < rs.length
        · obtain ⟨b, off, pa, pc, na, nc, rfl, hS, hb, h0, h1, h2, hok, hp, hn'⟩ := (hr.below hb0 fun _ _ h => h).rule hlt
          have hg1 := hgr rs[k] (List.getElem_mem hlt)
          have hst' := Lib.hid (lp_snoc so rs (outs, false) k hlt)
          clear hr c1
          obtain ⟨w2, rfl⟩ : ∃ w2, w2 = wr := ⟨_, rfl⟩
          have Hp := Lib.hid (hp.to (w' := w2.alloc (.cells #[.int .i64 rs[k].head, .slice pa rs[k].pos.length pc, .slice na rs[k].neg.length nc] 46)))
          have Hn := Lib.hid (hn'.to (w' := w2.alloc (.cells #[.int .i64 rs[k].head, .slice pa rs[k].pos.length pc, .slice na rs[k].neg.length nc] 46)))
          have HSO2 := Lib.hid ((HSO.out.at hb0).to (w' := w2.alloc (.cells #[.int .i64 rs[k].head, .slice pa rs[k].pos.length pc, .slice na rs[k].neg.length nc] 46)))
          have hx0 : 0 ≤ rs[k].head := hg1.head.1
          have hx1 : rs[k].head < (n : Int) := hg1.head.2
          have hxn : rs[k].head.toNat < o1.length := by omega
          have ho2 := hrow.cell hxn
          have hof := hrow.frozen rs[k].head.toNat
          have hgd : o1.getD rs[k].head.toNat false = o1[rs[k].head.toNat] := by rw [List.getD_eq_getElem?_getD, List.getElem?_eq_getElem hxn]; rfl
          have hrs := Lib.hid ((hrow.alloc (.cells #[.int .i64 rs[k].head, .slice pa rs[k].pos.length pc, .slice na rs[k].neg.length nc] 46)).seq (S := fun _ => True) (n := n) (cap := n) hlen1.symm (Nat.le_refl _) (by simp only [maxLen]; omega) (by omega) trivial)
          have hany := Lib.hid (Any_spec HSO2.out Hn.out fun x hx => (hg1.neg x hx).1)
          have hall := Lib.hid (All_spec hrs.out Hp.out fun x hx => (hg1.pos x hx).1)
          clear hp hn' hg1
          cases hu : o1[rs[k].head.toNat]
          · rw [hu] at ho2
            go_wp2_with fail
            refine hany.out.mono ?_
            rintro e w3 ⟨rfl, rfl⟩
            cases hA : anyB so rs[k].neg
            · go_wp2_with fail
              refine hall.out.mono ?_
              rintro e w3 ⟨rfl, rfl⟩
              cases hP : allPos o1 rs[k].pos
              · have hs2 := Lib.hid (show (rs.take (k + 1)).foldl (lpStep so) (outs, false) = (o1, m1) by
                  rw [hst'.out, ← hst.out]; unfold lpStep fpStep; rw [if_neg (by rw [hA]; decide), if_neg (by simp [hP])])
                clear hgd
                go_wp2_with fail
                go_roundw
                case rel => exact ⟨k + 1, hlt, by go_num, (o1, m1), Lib.hid hs2.out.symm, rfl, hlen1, hrow.alloc _, Seq.way⟩
                case measure => simp [intOf]; omega
              · have hs2 := Lib.hid (show (rs.take (k + 1)).foldl (lpStep so) (outs, false) = (o1.set rs[k].head.toNat true, true) by
                  rw [hst'.out, ← hst.out]; unfold lpStep fpStep; rw [if_neg (by rw [hA]; decide), if_pos (by simp only [hP, hgd, hu]; rfl)])
                clear hgd
                go_wp2_with fail
                go_roundw
                case rel => exact ⟨k + 1, hlt, by go_num, (o1.set rs[k].head.toNat true, true), Lib.hid hs2.out.symm, rfl, by simpa using hlen1, (hrow.set _ _).alloc _, Below.alloc (Below.setCell hbel (Nat.le_refl _) _) (by rw [World.size_setCell]; omega) _⟩
                case measure => simp [intOf]; omega
            · have hs2 := Lib.hid (show (rs.take (k + 1)).foldl (lpStep so) (outs, false) = (o1, m1) by
                rw [hst'.out, ← hst.out]; unfold lpStep; rw [if_pos hA])
              clear hgd
              go_wp2_with fail
              go_roundw
              case rel => exact ⟨k + 1, hlt, by go_num, (o1, m1), Lib.hid hs2.out.symm, rfl, hlen1, hrow.alloc _, Seq.way⟩
              case measure => simp [intOf]; omega
          · have hs2 := Lib.hid (show (rs.take (k + 1)).foldl (lpStep so) (outs, false) = (o1, m1) by
              rw [hst'.out, ← hst.out]
              unfold lpStep
              split
              · rfl
              · unfold fpStep; rw [if_neg (by simp only [hgd, hu]; simp)])
            clear hgd
            rw [hu] at ho2
            go_wp2_with fail
            go_roundw
            case rel => exact ⟨k + 1, hlt, by go_num, (o1, m1), Lib.hid hs2.out.symm, rfl, hlen1, hrow.alloc _, Seq.way⟩
            case measure => simp [intOf]; omega
        · obtain rfl : k = rs.length := by omega
          have hst' : fpass (keepN so rs) outs = (o1, m1) := by rw [hst.out, List.take_length]; exact lp_fold so rs _
          have hcs := fpass_cases (keepN so rs) outs (by intro r hr'; have := hgk r hr'; omega)
          rw [hst'] at hcs
          have hcs := Lib.hid hcs
          have hst2 := Lib.hid hst'
          clear hst' hr c1
          have hhr : ∀ r ∈ keepN so rs, r.head.toNat < o1.length := by intro r hr'; have := hgk r hr'; omega
          clear hgr
          go_wp2_with fail
          have h2 := (hh.out.1 (by simp)).1
          go_roundg (gk - 1)
          case measure => omega
          case rel =>
            refine ⟨o1, m1, rfl, hlen1, hrow, hbel, Lib.hid ⟨fun hm => ?_, fun hm => ?_⟩⟩
            · subst hm
              rcases hcs.out with h | ⟨-, h⟩
              · simp at h
              · have h' : o1.count false < outs.count false := h
                refine ⟨by omega, fun f hf => ?_⟩
                have h3 := (hh.out.1 (by simp)).2 (f + outs.count false + 2) (by omega)
                rw [← h3]
                rw [followsGo_succ, hst2.out, if_pos rfl]
                exact followsGo_more (keepN so rs) _ _ _ hhr hf (by omega)
            · subst hm
              rcases hcs.out with h | ⟨h, -⟩
              · have h1 : o1 = outs := congrArg Prod.fst h
                refine ⟨by omega, ?_⟩
                have h3 := (hh.out.1 (by simp)).2 (outs.count false + 1) (by omega)
                rw [← h3]
                simp [followsGo, hst2.out]
              · simp at h
end Go.Proofs.Ytdbennmbbmoflaa
