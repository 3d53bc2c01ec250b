/-
  Layer 14, the document: Variant, Total, Same, Open, Answer.
-/
import Derived.Test.YtckkjjiaecnciaaGreatDpF
import Derived.Test.YtckkjjiaecnciaaGreatSpA
namespace Go.Proofs.YtckkjjiaecnciaaGreat
open Go Go.RowKit

theorem infoTab : (Tryz.prog.info? 43).map (fun i => (i.zero, i.size, i.bytes)) = some (some (.agg #[.slice none 0 0, .slice none 0 0]), 2, 48) := by kernel_rfl
theorem infoSeqB : (Tryz.prog.info? 23).map (fun i => (i.zero, i.size, i.bytes)) = some (some (.slice none 0 0), 1, 24) := by kernel_rfl
section
variable {P : Program} {ops : Array Oper} {rest : List Oper} {o : Oper} {a : Act} {Q : Exit → Act → World → Prop}
theorem wpList_app_tab {S Sy : Nat → Prop} {w wm : World} (hgd : o.guard = none) (s x : Operand) (t : TypeId)
    (ho : o.op = .call { callee := .builtin .append, args := #[s, x], argTypes := #[t, t] })
    {base : Nat} {e : TypeId} (ht : P.underlying t = some (.slice e)) (hi : (P.info? e).map (fun i => (i.zero, i.size, i.bytes)) = some (some (.agg #[.slice none 0 0, .slice none 0 0]), 2, 48))
    {v : Value} {xs : List Tab} (hs : a.eval s = v) (hown : Own tabE S base e wm v xs) {B c : Nat} (hx : a.eval x = .slice (some ⟨B, 0, none⟩) 1 c)
    (hbw : Below wm.heap.size wm w) {y : Tab} {vh vp : Value} (hh : Seq cellE Sy w vh y.call) (hp : Seq (seqE cellE) Sy w vp y.ans) (hS : ∀ b, Sy b → b < w.heap.size → S b ∧ (b < base ∨ wm.heap.size ≤ b))
    (hc0 : w.cell? ⟨B, 0, none⟩ = some vh) (hc1 : w.cell? ⟨B, 1, none⟩ = some vp) (hbytes : xs.length ≤ 1000000000000) (hbase : base ≤ wm.heap.size)
    (h : ∀ ao cap w', Own tabE S base e w' (.slice ao (xs.length + 1) cap) (xs ++ [y]) → Kept base wm w w' v (.slice ao (xs.length + 1) cap) → wpList P ops Q rest (a.put o.dst (.slice ao (xs.length + 1) cap)) w') : wpList P ops Q (o :: rest) a w :=
  wpList_app1 (E := tabE) (Sy := Sy) (y := y) (cs := [vh, vp]) hgd s x t ho ht hi rfl hs hown hbw _ _ hx ⟨vh, vp, rfl, hh, hp⟩ hS
    (by
      intro j hj
      have h3 : j < 2 := hj
      rcases (show j = 0 ∨ j = 1 by omega) with rfl | rfl
      · exact hc0
      · exact hc1) (by omega) (by simp only [maxLen]; omega) hbase
    fun ao cap w' h1 h2 h3 h4 => h ao cap w' h1 (Kept.of h2 h3 hbw hbase h4)
end
theorem same_bool {S T : Nat → Prop} {w : World} {v u : Value} {a b : List Cell} (ha : Seq cellE S w v a) (hb : Seq cellE T w u b) : Calls Tryz.prog 28 #[v, u] w (RetV (.bool (decide (a = b))) w) :=
  (SameT_spec ha hb).mono fun _ _ h => ⟨by rw [h.1], h.2.below _⟩
theorem sameall_bool {S T : Nat → Prop} {w : World} {v u : Value} {a b : List (List Cell)} (ha : Seq (seqE cellE) S w v a) (hb : Seq (seqE cellE) T w u b) : Calls Tryz.prog 27 #[v, u] w (RetV (.bool (decide (a = b))) w) :=
  (SameAll_spec ha hb).mono fun _ _ h => ⟨by rw [h.1], h.2.below _⟩

set_option maxHeartbeats 3200000 in
set_option maxRecDepth 100000 in
theorem VariantR_spec {S T : Nat → Prop} {w : World} {v u : Value} {a b : List Cell} (ha : Seq cellE S w v a) (hb : Seq cellE T w u b) (pa : 0 < a.length) (pb : 0 < b.length) (la : a.length ≤ 1000000) (lb : b.length ≤ 1000000) :
    Calls Tryz.prog 24 #[v, u] w (RetV (.bool (decide (numT a = numT b))) w) := by
  have HA := Lib.hid ha
  have HB := Lib.hid hb
  obtain ⟨a1, a2, rfl⟩ := ha.shape
  obtain ⟨b1, b2, rfl⟩ := hb.shape
  clear ha hb
  go_enter Tryz.func24, Tryz.ntmps24
  go_wp2_with fail
  refine (NumberR_spec (HA.out.at Seq.way) pa la).mono ?_
  rintro e w1 ⟨v1, rfl, hb1, hs1⟩
  have B1 := Lib.hid (below_step hb1 (Seq.way : Below w.heap.size w _))
  have H1 := Lib.hid hs1
  obtain ⟨c1, c2, rfl⟩ := hs1.shape
  clear hb1 hs1
  go_wp2_with fail
  refine (NumberR_spec ((HB.out.at B1.out).at Seq.way) pb lb).mono ?_
  rintro e w2 ⟨v2, rfl, hb2, hs2⟩
  have B12 := Lib.hid (below_step hb2 (Seq.way : Below w1.heap.size w1 _))
  have H2 := Lib.hid hs2
  obtain ⟨c3, c4, rfl⟩ := hs2.shape
  clear hb2 hs2
  go_wp2_with fail
  refine (same_bool ((H1.out.at B12.out).at Seq.way) (H2.out.at Seq.way)).mono ?_
  rintro e w3 ⟨rfl, hb3⟩
  have B3 := Lib.hid (below_step hb3 (below_step Seq.way (below_step B12.out B1.out) : Below w.heap.size w _))
  clear hb3
  go_wp2_with fail
  go_ret
  exact ⟨rfl, below_step (by first | exact Below.refl _ _ | exact Seq.way) B3.out⟩

theorem tot_take {s : List Tab} {k : Nat} (hk : k < s.length) : totalT (s.take (k + 1)) = totalT (s.take k) + s[k].ans.length := by
  rw [List.take_succ_eq_append_getElem hk, totalT_snoc]
theorem tot_bound : ∀ {s : List Tab}, (∀ t ∈ s, t.ans.length ≤ 1000000) → totalT s ≤ 1000000 * s.length
  | [], _ => by simp [totalT]
  | t :: s, h => by
    have h1 := tot_bound (s := s) fun x hx => h x (List.mem_cons_of_mem _ hx)
    have h2 := h t List.mem_cons_self
    unfold totalT at h1 ⊢
    rw [List.map_cons, List.sum_cons, List.length_cons]; omega

set_option maxHeartbeats 3200000 in
set_option maxRecDepth 100000 in
theorem TotalR_spec {S : Nat → Prop} {w : World} {v : Value} {s : List Tab} (hs : Seq tabE S w v s) (hl : s.length ≤ 1000) (ha : ∀ t ∈ s, t.ans.length ≤ 1000000) :
    Calls Tryz.prog 23 #[v] w (RetV (.int .i64 (totalT s)) w) := by
  have HS := Lib.hid hs
  obtain ⟨aa, ac, rfl⟩ := hs.shape
  have hA := Lib.hid ha
  clear hs ha
  go_enter Tryz.func23, Tryz.ntmps23
  go_wp2_with fail
  go_loopw [3, 4] (fun n i wr => ∃ k : Nat, k ≤ s.length ∧ i = .int .i64 k ∧ n = .int .i64 (totalT (s.take k)) ∧ Hid (Below w.heap.size w wr)) (fun _ i _ => s.length - (intOf i).toNat)
  case atStart => exact ⟨0, Nat.zero_le _, rfl, rfl, Lib.hid (Below.refl _ _)⟩
  case round =>
    obtain ⟨k, hk, rfl, rfl, hbr⟩ := hrel
    by_cases hlt : k < s.length
    · obtain ⟨_, _, ee, -, -, -, -, x5⟩ := HS.out.at hbr.out
      simp only [Value.slice.injEq, true_and] at ee
      obtain ⟨rfl, rfl⟩ := ee
      obtain ⟨b, off, ha, hc, la, lc, rfl, -, lb, c0, c1, hH, hA2⟩ := x5.tab hlt
      have hst := Lib.hid (tot_take hlt)
      have hbd := tot_bound (s := s.take k) fun t ht => hA.out t (List.mem_of_mem_take ht)
      have hb1 := hA.out _ (List.getElem_mem hlt)
      rw [List.length_take, Nat.min_eq_left hk] at hbd
      obtain ⟨m, hm⟩ : ∃ m, m = totalT (s.take k) := ⟨_, rfl⟩
      rw [← hm] at hst hbd ⊢
      obtain ⟨x, hx⟩ : ∃ x, x = s[k] := ⟨_, rfl⟩
      rw [← hx] at c0 c1 hst hb1
      have hkI : (k : Int) < (s.length : Int) := by omega
      have hk0 : (0 : Int) ≤ (k : Int) := by omega
      have hw : wrap64 ((m : Int) + (x.ans.length : Int)) = (m : Int) + (x.ans.length : Int) := by unfold wrap64; omega
      clear hx hm hH hA2 x5
      go_wp2_with fail
      go_roundw
      case rel => exact ⟨k + 1, hlt, by go_num, by rw [hst.out, Int.natCast_add], Lib.hid (by first | exact hbr.out | exact below_step Seq.way hbr.out)⟩
      case measure => simp [intOf]; omega
    · obtain rfl : k = s.length := by omega
      have hkI : ¬ (s.length : Int) < (s.length : Int) := by omega
      rw [List.take_length]
      go_wp2_with fail
      go_ret
      exact ⟨rfl, hbr.out⟩

set_option maxHeartbeats 3200000 in
set_option maxRecDepth 100000 in
theorem OpenR_spec {S T : Nat → Prop} {w : World} {v u : Value} {s : List Tab} {c : List Cell} (hs : Seq tabE S w v s) (hc : Seq cellE T w u c) (pc : 0 < c.length) (lc : c.length ≤ 1000000) (hl : s.length ≤ 1000) :
    Calls Tryz.prog 13 #[v, u] w (fun e w' => ∃ o, e = .returned (.tuple #[o, .int .i64 (openT s c).2]) ∧ Below w.heap.size w w' ∧ Seq tabE (Fr S w) w' o (openT s c).1) := by
  have HS := Lib.hid hs.bnd
  have HC := Lib.hid hc
  obtain ⟨aa, ac, rfl⟩ := hs.shape
  obtain ⟨ca, cc, rfl⟩ := hc.shape
  clear hs hc
  obtain ⟨f, hf⟩ : ∃ f, f = findTb s c := ⟨_, rfl⟩
  have hF := Lib.hid (show Calls Tryz.prog 19 #[.slice aa s.length ac, .slice ca c.length cc] w (RetV (.int .i64 f) w) from hf ▸ FindR14_spec HS.out HC.out pc lc)
  have hO := Lib.hid (show openT s c = if 0 ≤ f then (s, f) else (s ++ [⟨numT c, []⟩], (s.length : Int)) by rw [hf]; rfl)
  clear hf
  go_enter Tryz.func13, Tryz.ntmps13
  go_wp2_with fail
  refine hF.out.mono ?_
  rintro e w1 ⟨rfl, hb1⟩
  have B1 := Lib.hid hb1
  clear hb1
  by_cases h0 : 0 ≤ f
  · have h0I : f ≥ 0 := h0
    have hOe := Lib.hid (hO.out.trans (if_pos h0))
    go_wp2_with fail
    go_ret2
    rw [hOe.out]
    exact ⟨_, rfl, B1.out, (HS.out.at B1.out).mono (fun b h _ => .inl h.1) fun _ _ _ => rfl⟩
  · have h0I : ¬ f ≥ 0 := h0
    have hOe := Lib.hid (hO.out.trans (if_neg h0))
    have HS1 := Lib.hid (HS.out.at B1.out)
    have HC1 := Lib.hid (HC.out.at B1.out)
    have hz1 := B1.out.size
    have hown0 : Own tabE (fun b => (S b ∧ b < w.heap.size) ∨ w1.heap.size ≤ b) w1.heap.size 43 (w1.alloc (.cells #[] 43)) (.slice (some ⟨w1.heap.size, 0, none⟩) 0 0) [] := Own.lit0 rfl (Nat.le_refl _) rfl
    go_wp2_with (at_builtin; refine wpList_appL (wm := w1.alloc (.cells #[] 43)) (zs := s) rfl _ _ 22 rfl Tryz.underlying22 infoTab rfl rfl hown0 (Below.refl _ _) rfl (HS1.out.at Seq.way) (fun b h _ => ⟨.inl h, .inl (by have := h.2; omega)⟩) rfl (by omega) (by omega) (by simp) ?_)
    intro ao2 cap2 w2 hown2 hk2
    have H2 := Lib.hid hown2
    have K2 := Lib.hid (Below.trans (Seq.way : Below w1.heap.size w1 (w1.alloc (.cells #[] 43))) hk2.below)
    clear hown2 hown0 hk2
    go_wp2_with fail
    refine (NumberR_spec ((HC1.out.at K2.out).at Seq.way) pc lc).mono ?_
    rintro e w3 ⟨v3, rfl, hb3, hs3⟩
    have K3 := Lib.hid (below_step hb3 (Seq.way : Below w2.heap.size w2 _))
    have HN := Lib.hid hs3
    obtain ⟨na, nc, rfl⟩ := hs3.shape
    have hz2 := K2.out.size
    clear hb3 hs3
    obtain ⟨N, hN⟩ : ∃ N, N = numT c := ⟨_, rfl⟩
    rw [← hN] at HN hOe ⊢
    clear hN
    go_wp2_with (at_builtin; (refine wpList_app_tab (S := fun b => (S b ∧ b < w.heap.size) ∨ w1.heap.size ≤ b) (Sy := fun b => w2.heap.size ≤ b) (base := w1.heap.size) (wm := w2) (y := ⟨N, []⟩) (vh := .slice na N.length nc) (vp := .slice none 0 0) rfl _ _ 22 rfl Tryz.underlying22 infoTab rfl H2.out rfl (below_step Seq.way K3.out) ((HN.out.at Seq.way).mono (fun b h _ => by simpa using h) fun _ _ _ => rfl) (Seq.nil _ _ _) (fun b h _ => ⟨.inr (by omega), .inr h⟩) (by go_simp) (by go_simp) (by omega) (by omega) ?_))
    intro ao3 cap3 w4 hown4 hk4
    have H4 := Lib.hid hown4
    have K4 := Lib.hid (Below.trans (Below.mono (below_step Seq.way K3.out : Below w2.heap.size w2 _) hz2) hk4.below)
    clear hown4 hk4
    go_wp2_with fail
    go_ret2
    rw [hOe.out]
    refine ⟨_, by simp, below_step (below_step (by first | exact Below.refl _ _ | exact Seq.way) (K2.out.trans K4.out)) B1.out, (H4.out.seq (T := Fr S w) (by simp; omega) fun b _ h => ?_)⟩
    rcases h with (h | h) | h
    · exact .inl h.1
    · exact .inr (Nat.le_trans hz1 h)
    · exact .inr (Nat.le_trans hz1 h)

theorem Own.setAns {S : Nat → Prop} {base : Nat} {e : TypeId} {w : World} {g cap : Nat} {xs : List Tab} (h : Own tabE S base e w (.slice (some ⟨g, 0, none⟩) xs.length cap) xs) {k : Nat} (hk : k < xs.length) {c : Tab} (hc : xs[k]? = some c) {u : Value}
    {A : List (List Cell)} (hu : Seq (seqE cellE) (fun b => S b ∧ b ≠ g) w u A) : Own tabE S base e (w.setCell ⟨g, k * 2 + 1, none⟩ u) (.slice (some ⟨g, 0, none⟩) xs.length cap) (xs.set k ⟨c.call, A⟩) := by
  obtain ⟨vs, hv1, hv2⟩ := h
  have hl : vs.length = xs.length * 2 := hv1.1
  have e1 := ownsRow_set hv1 (j := k * 2 + 1) (by show k * 2 + 1 < xs.length * 2; omega) u
  have hne : ∀ b, (S b ∧ (Value.slice (some ⟨g, 0, none⟩) xs.length cap).ownBlock ≠ some b) → b < w.heap.size → (w.setCell ⟨g, k * 2 + 1, none⟩ u).heap[b]? = w.heap[b]? := fun b hb _ => Below.heap_setCell _ _ _ _ fun e => hb.2 (by have e2 : b = g := e; rw [e2]; rfl)
  refine ⟨_, by rw [List.length_set]; exact e1, fun m x hx => ?_⟩
  by_cases hkm : k = m
  · subst hkm
    rw [List.getElem?_set_self hk] at hx
    simp only [Option.some.injEq] at hx
    subst hx
    obtain ⟨cs, ⟨v1, v2, rfl, h1, h2⟩, h5⟩ := hv2 k _ hc
    refine ⟨[v1, u], ⟨v1, u, rfl, h1.mono (fun _ h _ => h) hne, hu.mono (fun b hb _ => ⟨hb.1, fun e => hb.2 (by have e9 : some g = some b := e; simpa using e9.symm)⟩) fun b hb _ => Below.heap_setCell _ _ _ _ fun e => hb.2 e⟩, fun j hj => ?_⟩
    have hj2 : j < 2 := hj
    have h6 := h5 j hj
    show (vs.set (k * 2 + 1) _)[k * 2 + j]? = _
    rcases (show j = 0 ∨ j = 1 by omega) with rfl | rfl
    · rw [List.getElem?_set_ne (by omega)]; exact h6
    · rw [List.getElem?_set_self (by omega)]; rfl
  · rw [List.getElem?_set_ne hkm] at hx
    obtain ⟨cs, h4, h5⟩ := hv2 m x hx
    refine ⟨cs, tabE.mono h4 (fun _ h _ => h) hne, fun j hj => ?_⟩
    have hj2 : j < 2 := hj
    have := h5 j hj
    show (vs.set (k * 2 + 1) _)[m * 2 + j]? = _
    rw [List.getElem?_set_ne (by omega)]
    exact this
theorem gr_below' {w : World} {B g o : Nat} {v : Value} (h : B ≤ g) : Below B w (w.setCell ⟨g, o, none⟩ v) :=
  ⟨rfl, rfl, rfl, by simp [World.setCell], fun k hk => Below.heap_setCell _ _ _ _ (fun e => by have e2 : k = g := e; omega)⟩
theorem has_bool {S T : Nat → Prop} {w : World} {v u : Value} {l : List (List Cell)} {t : List Cell} (hl : Seq (seqE cellE) S w v l) (ht : Seq cellE T w u t) : Calls Tryz.prog 26 #[v, u] w (RetV (.bool (hasT l t)) w) :=
  (HasR14_spec hl ht).mono fun _ _ h => ⟨h.1, h.2.below _⟩
theorem newA_at {s : List Tab} {k : Nat} (hk : k < s.length) (t : List Cell) : newA s (k : Int) t = !hasT s[k].ans t := by
  unfold newA
  rw [decide_eq_true (by omega), Int.toNat_natCast, List.getElem?_eq_getElem hk, Bool.true_and]
theorem newA_no {s : List Tab} {n : Int} {t : List Cell} (h : n < 0 ∨ (s.length : Int) ≤ n) : newA s n t = false := by
  unfold newA
  rcases h with h | h
  · rw [decide_eq_false (by omega), Bool.false_and]
  · rw [List.getElem?_eq_none (by omega), Bool.and_false]
theorem ansT_at {s : List Tab} {k : Nat} (hk : k < s.length) (t : List Cell) : ansT s k t = s.set k ⟨s[k].call, s[k].ans ++ [t]⟩ := by unfold ansT; rw [List.getElem?_eq_getElem hk]

set_option maxHeartbeats 3200000 in
set_option maxRecDepth 100000 in
theorem AnswerR_spec {S T : Nat → Prop} {w : World} {v u : Value} {s : List Tab} {t : List Cell} {n : Int} (hs : Seq tabE S w v s) (ht : Seq cellE T w u t) (hl : s.length ≤ 1000) (ha : ∀ x ∈ s, x.ans.length ≤ 1000000) :
    Calls Tryz.prog 15 #[v, .int .i64 n, u] w (fun e w' => ∃ o, e = .returned (.tuple #[o, .bool (newA s n t)]) ∧ Below w.heap.size w w' ∧ Seq tabE (Fr (fun b => S b ∨ T b) w) w' o (answerT s n t).1) := by
  have HS := Lib.hid hs.bnd
  have HT := Lib.hid ht.bnd
  obtain ⟨aa, ac, rfl⟩ := hs.shape
  obtain ⟨ta, tc, rfl⟩ := ht.shape
  clear hs ht
  by_cases h0 : n < 0
  · have hne := Lib.hid (newA_no (s := s) (t := t) (.inl h0))
    have hae := Lib.hid (show answerT s n t = (s, false) by unfold answerT; rw [hne.out]; rfl)
    go_enter Tryz.func15, Tryz.ntmps15
    go_wp2_with fail
    go_ret2
    rw [hae.out, hne.out]
    exact ⟨_, rfl, by first | exact Below.refl _ _ | exact Seq.way, (HS.out.at (by first | exact Below.refl _ _ | exact Seq.way)).mono (fun b h _ => .inl (.inl h.1)) fun _ _ _ => rfl⟩
  by_cases h1 : n ≥ (s.length : Int)
  · have hne := Lib.hid (newA_no (s := s) (t := t) (.inr h1))
    have hae := Lib.hid (show answerT s n t = (s, false) by unfold answerT; rw [hne.out]; rfl)
    go_enter Tryz.func15, Tryz.ntmps15
    go_wp2_with fail
    go_ret2
    rw [hae.out, hne.out]
    exact ⟨_, rfl, by first | exact Below.refl _ _ | exact Seq.way, (HS.out.at (by first | exact Below.refl _ _ | exact Seq.way)).mono (fun b h _ => .inl (.inl h.1)) fun _ _ _ => rfl⟩
  obtain ⟨k, rfl⟩ := Int.eq_ofNat_of_zero_le (by omega : 0 ≤ n)
  have hk : k < s.length := by omega
  have hkI : (k : Int) < (s.length : Int) := by omega
  have hk0 : (0 : Int) ≤ (k : Int) := by omega
  have hkt : ((k : Int)).toNat = k := Int.toNat_natCast k
  have hne := Lib.hid (newA_at hk t)
  have hans := Lib.hid (ansT_at hk t)
  have hal := ha _ (List.getElem_mem hk)
  have hgk := Lib.hid (List.getElem?_eq_getElem hk)
  obtain ⟨_, _, ee, -, -, -, -, x5⟩ := HS.out
  simp only [Value.slice.injEq, true_and] at ee
  obtain ⟨rfl, rfl⟩ := ee
  obtain ⟨b, off, ha1, hc1, la, lc, rfl, -, lb, c0, c1, hH, hA⟩ := x5.tab hk
  obtain ⟨x, hx⟩ : ∃ x, x = s[k] := ⟨_, rfl⟩
  rw [← hx] at c0 c1 hH hA hne hans hal hgk
  have HA := Lib.hid hA
  obtain ⟨bb, hbb⟩ : ∃ bb, bb = hasT x.ans t := ⟨_, rfl⟩
  have hHas := Lib.hid (show Calls Tryz.prog 26 #[.slice la x.ans.length lc, .slice ta t.length tc] w (RetV (.bool bb) w) from hbb ▸ has_bool HA.out HT.out)
  rw [← hbb] at hne
  clear hx hH hA x5 hbb ha h0 h1
  go_enter Tryz.func15, Tryz.ntmps15
  go_wp2_with fail
  refine hHas.out.mono ?_
  rintro e w1 ⟨rfl, hb1⟩
  have B1 := Lib.hid hb1
  have hz1 := hb1.size
  have c1' := (hb1.cell (p := ⟨b, off + k * 2 + 1, none⟩) lb).trans c1
  have lb1 := Nat.lt_of_lt_of_le lb hz1
  clear hb1 c0 c1 hHas
  cases bb with
  | true =>
    have hae := Lib.hid (show answerT s (k : Int) t = (s, false) by unfold answerT; rw [hne.out]; rfl)
    go_wp2_with fail
    go_ret2
    rw [hae.out, hne.out]
    exact ⟨_, rfl, B1.out, (HS.out.at B1.out).mono (fun b h _ => .inl (.inl h.1)) fun _ _ _ => rfl⟩
  | false =>
    have hae := Lib.hid (show answerT s (k : Int) t = (s.set k ⟨x.call, x.ans ++ [t]⟩, true) by unfold answerT; rw [hne.out, Int.toNat_natCast, hans.out]; rfl)
    have HS1 := Lib.hid (HS.out.at B1.out)
    have HA1 := Lib.hid (HA.out.at B1.out)
    have HT1 := Lib.hid (HT.out.at B1.out)
    have hown0 : Own tabE (fun b => ((S b ∨ T b) ∧ b < w.heap.size) ∨ w1.heap.size ≤ b) w1.heap.size 43 (w1.alloc (.cells #[] 43)) (.slice (some ⟨w1.heap.size, 0, none⟩) 0 0) [] := Own.lit0 rfl (Nat.le_refl _) rfl
    go_wp2_with (at_builtin; refine wpList_appL (wm := w1.alloc (.cells #[] 43)) (zs := s) rfl _ _ 22 rfl Tryz.underlying22 infoTab rfl rfl hown0 (Below.refl _ _) rfl (HS1.out.at Seq.way) (fun b h _ => ⟨.inl ⟨.inl h.1, h.2⟩, .inl (by have := h.2; omega)⟩) rfl (by omega) (by omega) (by simp) ?_)
    intro ao2 cap2 w2 hown2 hk2
    have H2 := Lib.hid hown2
    have K2 := Lib.hid (Below.trans (Seq.way : Below w1.heap.size w1 (w1.alloc (.cells #[] 43))) hk2.below)
    have hz2 := K2.out.size
    have c2 := (K2.out.cell (p := ⟨b, off + k * 2 + 1, none⟩) lb1).trans c1'
    have lb2 := Nat.lt_of_lt_of_le lb1 hz2
    clear hown2 hown0 hk2 c1'
    have hown3 : Own (seqE cellE) (fun b => ((S b ∨ T b) ∧ b < w.heap.size)) w2.heap.size 23 (w2.alloc (.cells #[] 23)) (.slice (some ⟨w2.heap.size, 0, none⟩) 0 0) [] := Own.lit0 rfl (Nat.le_refl _) rfl
    go_wp2_with (at_builtin; refine wpList_appL (wm := w2.alloc (.cells #[] 23)) (zs := x.ans) rfl _ _ 41 rfl Tryz.underlying41 infoSeqB rfl rfl hown3 (Below.refl _ _) rfl ((HA1.out.at K2.out).at Seq.way) (fun b h _ => ⟨⟨.inl h.1, h.2⟩, .inl (by have := h.2; omega)⟩) rfl (by omega) (by omega) (by simp) ?_)
    intro ao3 cap3 w3 hown4 hk3
    have H3 := Lib.hid hown4
    have K3 := Lib.hid (Below.trans (Seq.way : Below w2.heap.size w2 (w2.alloc (.cells #[] 23))) hk3.below)
    have hz3 := K3.out.size
    clear hown4 hown3 hk3
    have K23 := Lib.hid (below_step K3.out K2.out)
    go_wp2_with (at_builtin; (refine wpList_app_seq (E := cellE) (S := fun b => ((S b ∨ T b) ∧ b < w.heap.size)) (Sy := fun b => T b ∧ b < w.heap.size) (base := w2.heap.size) (wm := w3) (y := t) rfl _ _ 41 rfl Tryz.underlying41 infoSeqB rfl H3.out rfl Seq.way ((HT1.out.at K23.out).at Seq.way) (fun b h _ => ⟨⟨.inr h.1, h.2⟩, .inl (by have := h.2; omega)⟩) (by go_simp) (by omega) hz3 ?_))
    intro ao4 cap4 w4 hown5 hk4
    have H4 := Lib.hid hown5
    have K4 := Lib.hid (Below.trans (Below.mono (Seq.way : Below w3.heap.size w3 _) hz3) hk4.below)
    have hz4 := K4.out.size
    clear hown5 hk4
    have K24 := Lib.hid (K3.out.trans K4.out)
    have H2b := Lib.hid (H2.out.move K24.out)
    obtain ⟨g, hg⟩ : ∃ g, ao2 = some ⟨g, 0, none⟩ := by
      obtain ⟨vs, hv, -⟩ := H2b.out
      obtain ⟨g, cap, hv', -⟩ := own_cell hv (i := 0) (by show 0 < s.length * 2; omega)
      simp only [Value.slice.injEq] at hv'
      exact ⟨g, hv'.1⟩
    subst hg
    have hgb := H2.out.blk (b := g) rfl
    have HL := Lib.hid (H4.out.seq (T := fun b => (((S b ∨ T b) ∧ b < w.heap.size) ∨ w1.heap.size ≤ b) ∧ b ≠ g) (by simp; omega) fun b _ h => by
      rcases h with h | h
      · exact ⟨.inl h, by have := h.2; omega⟩
      · exact ⟨.inr (by omega), by omega⟩)
    have Hfin := Lib.hid (H2b.out.setAns hk hgk.out HL.out)
    obtain ⟨_, _, e2, -, -, -, -, hs5⟩ := H2b.out.seq (T := fun _ => True) (by omega) fun _ _ _ => trivial
    simp only [Value.slice.injEq] at e2
    obtain ⟨rfl, -, rfl⟩ := e2
    obtain ⟨b3, off3, _, _, la3, lc3, e3, -, lg, -, g1, -, -⟩ := hs5.tab hk
    simp only [Option.some.injEq, Addr.mk.injEq, and_true] at e3
    obtain ⟨rfl, rfl⟩ := e3
    simp only [Nat.zero_add] at g1
    have hfz : w4.frozen? ⟨g, k * 2 + 1, none⟩ = false := by
      obtain ⟨vs, hv, -⟩ := H2b.out
      obtain ⟨g', cap', hv', -, -, -, hfz⟩ := own_cell hv (i := 0) (by show 0 < s.length * 2; omega)
      simp only [Value.slice.injEq, Option.some.injEq, Addr.mk.injEq, and_true] at hv'
      obtain ⟨rfl, -⟩ := hv'
      exact hfz _
    clear hs5 c2 lb2 lb1 lb
    go_wp2_with fail
    go_ret2
    rw [hae.out, hne.out]
    refine ⟨_, rfl, ?_, ?_⟩
    · exact below_step ((Below.trans (K2.out.mono (Nat.le_refl _)) (K24.out.mono hz2)).trans (gr_below' hgb.1)) B1.out
    · refine Hfin.out.seq (T := Fr (fun b => S b ∨ T b) w) (by simp; omega) fun b _ h => ?_
      rcases h with (h | h) | h
      · exact .inl h.1
      · exact .inr (Nat.le_trans hz1 h)
      · exact .inr (Nat.le_trans hz1 h)
end Go.Proofs.YtckkjjiaecnciaaGreat
