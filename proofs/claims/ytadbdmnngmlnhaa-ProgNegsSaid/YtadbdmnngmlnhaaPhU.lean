/-
  Layer 7: the walk of ProgNegs.
-/
import Derived.Test.YtadbdmnngmlnhaaPhT
namespace Go.Proofs.Ytadbdmnngmlnhaa
open Go Go.RowKit

def plainL (l : List Lit) : List Lit := l.map fun b => ⟨false, b.t⟩
theorem plainL_len (l : List Lit) : (plainL l).length = l.length := by unfold plainL; rw [List.length_map]
theorem plainL_succ {l : List Lit} {k : Nat} (h : k < l.length) : (plainL l).take (k + 1) = (plainL l).take k ++ [⟨false, l[k].t⟩] := by
  rw [List.take_succ_eq_append_getElem (by rw [plainL_len]; exact h)]
  congr 2
  unfold plainL; rw [List.getElem_map]
theorem plainL_rev {l : List Lit} {k : Nat} (h : k < l.length) : (plainL l.reverse).take (k + 1) = (plainL l.reverse).take k ++ [⟨false, l[l.length - 1 - k].t⟩] := by
  rw [plainL_succ (by rw [List.length_reverse]; exact h), List.getElem_reverse]
theorem plainL_safe {c : Cls} (h : safeC c = true) : safeC ⟨c.head, plainL c.body⟩ = true := by
  refine safe_plain h (fun b hb => ?_) (plainL_len _) fun t => ?_
  · unfold plainL at hb
    obtain ⟨x, -, rfl⟩ := List.mem_map.1 hb
    rfl
  · unfold plainL
    constructor
    · rintro ⟨b, hb, rfl⟩
      obtain ⟨x, hx, rfl⟩ := List.mem_map.1 hb
      exact ⟨x, hx, rfl⟩
    · rintro ⟨b, hb, rfl⟩
      exact ⟨⟨false, b.t⟩, List.mem_map.2 ⟨b, hb, rfl⟩, rfl⟩
theorem plainL_safeR {c : Cls} (h : safeC c = true) : safeC ⟨c.head, plainL c.body.reverse⟩ = true := by
  refine safe_plain h (fun b hb => ?_) (by rw [plainL_len, List.length_reverse]) fun t => ?_
  · unfold plainL at hb
    obtain ⟨x, -, rfl⟩ := List.mem_map.1 hb
    rfl
  · unfold plainL
    constructor
    · rintro ⟨b, hb, rfl⟩
      obtain ⟨x, hx, rfl⟩ := List.mem_map.1 hb
      exact ⟨x, List.mem_reverse.1 hx, rfl⟩
    · rintro ⟨b, hb, rfl⟩
      exact ⟨⟨false, b.t⟩, List.mem_map.2 ⟨b, List.mem_reverse.2 hb, rfl⟩, rfl⟩
theorem atomL_var (nm : ByteArray) {n : Int} (h : 0 ≤ n) : n ∈ varsL (atomL nm n) := by
  rw [varsL_mem]
  unfold atomL
  rw [if_neg (by omega)]
  exact ⟨⟨1, ⟨#[]⟩, n⟩, by simp, rfl, rfl⟩
/-- A number that no literal has. -/
def FreeN (c : Cls) (k : Nat) (n : Int) : Prop := ∀ (i : Nat) b, i < k → c.body[i]? = some b → ¬ n ∈ varsL b.t
theorem freeN_succ {c : Cls} {k : Nat} {n : Int} (h : FreeN c k n) (hk : k < c.body.length) (hn : ¬ n ∈ varsL c.body[k].t) : FreeN c (k + 1) n := fun i b hi hb => by
  rcases Nat.lt_or_eq_of_le (Nat.le_of_lt_succ hi) with hlt | rfl
  · exact h i b hlt hb
  · rw [List.getElem?_eq_getElem hk] at hb; simp at hb; subst hb; exact hn
theorem freeN_all {c : Cls} {n : Int} (h : FreeN c c.body.length n) : ∀ b ∈ c.body, ¬ n ∈ varsL b.t := fun b hb => by
  obtain ⟨i, hi, rfl⟩ := List.mem_iff_getElem.1 hb
  exact h i _ hi (List.getElem?_eq_getElem hi)
section
variable {P : Program} {ops : Array Oper} {rest : List Oper} {o : Oper} {a : Act} {Q : Exit → Act → World → Prop}
theorem wpList_app_lit {S Sy : Nat → Prop} {w wm : World} (hgd : o.guard = none) (s x : Operand) (t : TypeId)
    (ho : o.op = .call { callee := .builtin .append, args := #[s, x], argTypes := #[t, t] })
    {base : Nat} {e : TypeId} (ht : P.underlying t = some (.slice e)) (hi : (P.info? e).map (fun i => (i.zero, i.size, i.bytes)) = some (some (.agg #[.bool false, .slice none 0 0]), 2, 32))
    {v : Value} {xs : List Lit} (hs : a.eval s = v) (hown : Own litE S base e wm v xs) {B c : Nat} (hx : a.eval x = .slice (some ⟨B, 0, none⟩) 1 c)
    (hbw : Below wm.heap.size wm w) {y : Lit} {vt : Value} (hh : Seq cellE Sy w vt y.t) (hS : ∀ b, Sy b → b < w.heap.size → S b ∧ (b < base ∨ wm.heap.size ≤ b))
    (hc0 : w.cell? ⟨B, 0, none⟩ = some (.bool y.neg)) (hc1 : w.cell? ⟨B, 1, none⟩ = some vt) (hbytes : xs.length ≤ 1000000000000) (hbase : base ≤ wm.heap.size)
    (h : ∀ ao cap w', Own litE S base e w' (.slice ao (xs.length + 1) cap) (xs ++ [y]) → Kept base wm w w' v (.slice ao (xs.length + 1) cap) → wpList P ops Q rest (a.put o.dst (.slice ao (xs.length + 1) cap)) w') : wpList P ops Q (o :: rest) a w :=
  wpList_app1 (E := litE) (Sy := Sy) (y := y) (cs := [.bool y.neg, vt]) hgd s x t ho ht hi rfl hs hown hbw _ _ hx ⟨vt, rfl, hh⟩ hS
    (by
      intro j hj
      have h3 : j < 2 := hj
      rcases (show j = 0 ∨ j = 1 by omega) with rfl | rfl
      · exact hc0
      · exact hc1) (by omega) (by simp only [maxLen]; omega) hbase
    fun ao cap w' h1 h2 h3 h4 => h ao cap w' h1 (Kept.of h2 h3 hbw hbase h4)
end
/-- A row of one's own beside an append to another one. -/
theorem own_beside {S : Nat → Prop} {base : Nat} {e : TypeId} {wm w w' : World} {v v' u : Value} {l : List Lit} (h : Own litE S base e w u l) (hk : Kept base wm w w' v v') (hne : ∀ b, u.ownBlock = some b → v.ownBlock ≠ some b) (hS : ∀ b, S b → b < base) : Own litE S base e w' u l :=
  h.moveO (fun b hl hb => hk.keep b hl (hne b hb)) fun b _ hs => hk.below.block b (hS b hs)

/-- A literal slice of cells, where it lies. -/
theorem seq_cellsS {S : Nat → Prop} {T : TypeId} {w : World} {B n : Nat} (hS : S B) {cs : List Cell} (h : Row T w B (flatV cs)) (hok : ∀ c ∈ cs, CellW2 c) (hn : n = cs.length) (hl : cs.length ≤ 1000) :
    Seq cellE S w (.slice (some ⟨B, 0, none⟩) n n) cs :=
  Row.seq h hn (Nat.le_refl _) (by unfold maxLen; omega) (by omega) hS fun k x hk => ⟨_, ⟨rfl, hok x (List.mem_of_getElem? hk)⟩, fun j hj => flatV_get cs k j x hk hj⟩
set_option maxRecDepth 100000 in
theorem atomLw2_spec {w : World} {nm : ByteArray} {n : Int} (hnm : nm.size ≤ 1000) (hn : IntOK n) :
    Calls Try.prog 33 #[.string nm, .int .i64 n] w (Ret (fun r w' => Seq cellE (fun b => w.heap.size ≤ b) w' r (atomL nm n)) w) := by
  go_enter Try.func33, Try.ntmps33
  by_cases h : n < 0
  · have he := Lib.hid (show atomL nm n = [⟨3, nm, 0⟩] by unfold atomL; rw [if_pos h])
    go_wp2_with fail
    go_ret
    refine ⟨_, rfl, Seq.way, ?_⟩
    rw [he.out]
    exact seq_cellsS (Nat.le_refl _) (cs := [⟨3, nm, 0⟩]) (show Row 50 _ w.heap.size [.int .i64 3, .string nm, .int .i64 0] from Row.new w [_, _, _] _ rfl) (fun c hc => by rw [List.mem_singleton] at hc; subst hc; exact ⟨⟨by show _ ≤ (3 : Int); decide, by show (3 : Int) ≤ _; decide⟩, ⟨by show _ ≤ (0 : Int); decide, by show (0 : Int) ≤ _; decide⟩, by show nm.size ≤ _; omega⟩) rfl (by simp)
  · have he := Lib.hid (show atomL nm n = [⟨3, nm, 1⟩, ⟨1, ⟨#[]⟩, n⟩] by unfold atomL; rw [if_neg h])
    have Hn := Lib.hid hn
    clear hn
    go_wp2_with fail
    go_ret
    refine ⟨_, rfl, Seq.way, ?_⟩
    rw [he.out]
    exact seq_cellsS (Nat.le_refl _) (cs := [⟨3, nm, 1⟩, ⟨1, ⟨#[]⟩, n⟩]) (show Row 50 _ w.heap.size [.int .i64 3, .string nm, .int .i64 1, .int .i64 1, .string ⟨#[]⟩, .int .i64 n] from Row.new w [_, _, _, _, _, _] _ rfl) (fun c hc => by
      rcases List.mem_cons.1 hc with rfl | hc
      · exact ⟨⟨by show _ ≤ (3 : Int); decide, by show (3 : Int) ≤ _; decide⟩, ⟨by show _ ≤ (1 : Int); decide, by show (1 : Int) ≤ _; decide⟩, by show nm.size ≤ _; omega⟩
      · rw [List.mem_singleton] at hc; subst hc; exact ⟨⟨by show _ ≤ (1 : Int); decide, by show (1 : Int) ≤ _; decide⟩, Hn.out, by show (⟨#[]⟩ : ByteArray).size ≤ _; decide⟩) rfl (by simp)
set_option maxHeartbeats 12800000 in
set_option maxRecDepth 100000 in
theorem negs_spec {S : Nat → Prop} {w : World} {v : Value} {c : Cls} (hc : ClsV S w v c) : Calls Try.prog 6 #[v] w (RetV (.bool true) w) := by
  obtain ⟨vh, vb, rfl, hB⟩ := hc.any.box
  obtain ⟨W, hW⟩ : ∃ W, W = w.alloc (.cells #[vh, vb] 31) := ⟨_, rfl⟩
  obtain ⟨bc, hbc⟩ : ∃ b, b = w.heap.size := ⟨_, rfl⟩
  have HBW := Lib.hid (show Below w.heap.size w W by rw [hW]; exact Seq.way)
  rw [← hW, ← hbc] at hB
  obtain ⟨ha, hcc, la, lc, rfl, rfl⟩ := hB.shape
  have HB := Lib.hid hB
  have HW := Lib.hid hW
  have Hbc := Lib.hid hbc
  clear hW hbc hB hc
  have hfB := fun {w' : World} (h : Below W.heap.size W w') => Lib.hid (HB.out.at h)
  go_enter Try.func6, Try.ntmps6
  go_upto_region 1 with fail
  rw [← HW.out, ← Hbc.out]
  go_wp2_with fail
  refine head_spec.mono ?_
  rintro e w1 ⟨rfl, hb1⟩
  have B1 := Lib.hid hb1
  obtain ⟨m0, m1, -, -, -⟩ := (hfB hb1).out
  have HL1 := Lib.hid (seq_cls1 (hfB hb1).out.clsV)
  clear hb1
  go_wp2_with fail
  refine (GreatL_spec HL1.out).mono ?_
  rintro e w2 ⟨rfl, hb2⟩
  have B2 := Lib.hid (below_step (below_step hb2 Seq.way) B1.out)
  clear hb2 m0 m1
  cases hg : greatC [c] with
  | true =>
    clear hg
    go_wp2_with fail
    go_ret
    exact ⟨rfl, below_step B2.out HBW.out⟩
  | false =>
    obtain ⟨m0, m1, -, -, -⟩ := (hfB B2.out).out
    clear hg
    go_wp2_with fail
    refine (SafeP_spec ((hfB (below_step Seq.way B2.out)).out.clsV)).mono ?_
    rintro e w3 ⟨rfl, hb3⟩
    have B3 := Lib.hid (below_step (below_step hb3 Seq.way) B2.out)
    clear hb3 m0 m1
    cases hs : safeC c with
    | false =>
      clear hs
      go_wp2_with fail
      go_ret
      exact ⟨rfl, below_step B3.out HBW.out⟩
    | true =>
      have HS := Lib.hid hs
      have hbl := (mayC_parts (safeC_iff.1 HS.out).1).2.2
      have HMb := Lib.hid (mayC_parts (safeC_iff.1 HS.out).1).1
      have hhl := Lib.hid (right_len (mayC_parts (safeC_iff.1 HS.out).1).2.1)
      obtain ⟨W6, hW6⟩ : ∃ W6, W6 = (w3.alloc (.cells #[] 47)).alloc (.cells #[] 47) := ⟨_, rfl⟩
      have B6 := Lib.hid (show Below W.heap.size W W6 by rw [hW6]; exact below_step Seq.way B3.out)
      have O1 := Lib.hid (show Own litE (fun b => b < w3.heap.size) w3.heap.size 47 W6 (.slice (some ⟨w3.heap.size, 0, none⟩) 0 0) ((plainL c.body).take 0) by rw [hW6]; exact (Own.lit0 rfl (Nat.le_refl _) rfl).move Seq.way)
      have O2 := Lib.hid (show Own litE (fun b => b < w3.heap.size) w3.heap.size 47 W6 (.slice (some ⟨w3.heap.size + 1, 0, none⟩) 0 0) ((plainL c.body.reverse).take 0) by rw [hW6]; exact Own.lit0 (by simp) (by omega) rfl)
      have HW6 := Lib.hid hW6
      have Y3 := Lib.hid (show Below w3.heap.size w3 W6 by rw [hW6]; exact Seq.way)
      clear hs hW6
      go_upto_region 6 with fail
      rw [← HW6.out]
      go_wp2_with fail
      go_loopw [4, 5, 6] (fun p q z wz => ∃ k : Nat, k ≤ c.body.length ∧ z = .int .i64 k ∧ Hid (Own litE (fun b => b < w3.heap.size) w3.heap.size 47 wz p ((plainL c.body).take k)) ∧ Hid (Own litE (fun b => b < w3.heap.size) w3.heap.size 47 wz q ((plainL c.body.reverse).take k)) ∧ Hid (∀ b, p.ownBlock = some b → q.ownBlock ≠ some b) ∧ Hid (Below w3.heap.size w3 wz)) (fun _ _ z _ => c.body.length - (intOf z).toNat)
      case atStart => exact ⟨0, Nat.zero_le _, rfl, O1, O2, Lib.hid (fun b h e => by simp only [Value.ownBlock, Option.some.injEq] at h e; omega), Y3⟩
      case round =>
        clear O1 O2 B6 HW6 Y3
        obtain ⟨k, hk, rfl, hP, hQ, hne, hbz⟩ := hrel
        have hzr := hbz.out.size
        obtain ⟨m0, m1, hbcl, m3, m4⟩ := (hfB (below_step hbz.out B3.out)).out
        by_cases hlt : k < c.body.length
        · obtain ⟨_, _, ee, -, -, -, -, x5⟩ := (hfB B3.out).out.2.2.2.2.bnd
          simp only [Value.slice.injEq, true_and] at ee
          obtain ⟨rfl, rfl⟩ := ee
          obtain ⟨b1, o1, t1, n1, rfl, -, l1, -, c1, hX⟩ := x5.lit hlt
          obtain ⟨b2, o2, t2, n2, ee, -, l2, -, d1, hY⟩ := x5.lit (show c.body.length - 1 - k < c.body.length by omega)
          simp only [Option.some.injEq, Addr.mk.injEq, and_true] at ee
          obtain ⟨rfl, rfl⟩ := ee
          replace c1 : wr.cell? ⟨b1, o1 + k * 2 + 1, none⟩ = _ := (hbz.out.cell (p := ⟨b1, o1 + k * 2 + 1, none⟩) l1).trans c1
          have hY1 := Lib.hid (hX.mono (T := fun b => b < w3.heap.size) (fun b h _ => h.2) fun _ _ _ => rfl)
          have hY2 := Lib.hid (hY.mono (T := fun b => b < w3.heap.size) (fun b h _ => h.2) fun _ _ _ => rfl)
          have hst := Lib.hid (plainL_succ hlt)
          have hsr := Lib.hid (plainL_rev hlt)
          have hpl : ((plainL c.body).take k).length = k := by rw [List.length_take, plainL_len]; omega
          have hql : ((plainL c.body.reverse).take k).length = k := by rw [List.length_take, plainL_len, List.length_reverse]; omega
          obtain ⟨x, hx⟩ : ∃ x, x = c.body[k].t := ⟨_, rfl⟩
          obtain ⟨y, hy⟩ : ∃ y, y = (c.body[c.body.length - 1 - k]'(by omega)).t := ⟨_, rfl⟩
          rw [← hx] at c1 hY1 hst
          rw [← hy] at d1 hY2 hsr
          have hkl : (k : Int) < (c.body.length : Int) := by omega
          have hk0 : (0 : Int) ≤ (k : Int) := by omega
          have D1 := Lib.hid d1
          clear hx hy x5 hX hY d1
          go_wp2_with (at_builtin; (refine wpList_app_lit (wm := wr) (y := ⟨false, x⟩) rfl _ _ 29 rfl Try.underlying29 infoLit rfl hP.out rfl Seq.way (hY1.out.at (hbz.out.trans (Below.mono Seq.way hzr))) (fun b h _ => ⟨h, .inl h⟩) ((Row.new _ [_, _] _ rfl).cell (j := 0) (by simp)) ((Row.new _ [_, _] _ rfl).cell (j := 1) (by simp)) (by omega) hzr ?_))
          intro ao5 cap5 w5 hown5 hk5
          have H5 := Lib.hid (show Own litE (fun b => b < w3.heap.size) w3.heap.size 47 w5 _ ((plainL c.body).take (k + 1)) from by rw [hst.out]; exact hown5)
          have K5 := Lib.hid (hbz.out.trans (Below.trans (Below.mono (Seq.way : Below wr.heap.size wr _) hzr) hk5.below))
          have Q5 := Lib.hid (own_beside (hQ.out.move (Seq.way : Below wr.heap.size wr _)) hk5 (fun b h e => hne.out b e h) (fun b h => h))
          have hne5 := Lib.hid (show ∀ b, Value.ownBlock (.slice ao5 (k + 1) cap5) = some b → u5.ownBlock ≠ some b from fun b h e => by
            rcases hk5.blk with h1 | h1
            · exact hne.out b (h1 ▸ h) e
            · have h2 := (hQ.out.blk e).2
              rw [h1] at h
              simp only [Option.some.injEq, World.size_alloc] at h
              omega)
          have hz5 := Lib.hid (Nat.le_trans hzr (Nat.le_trans (show wr.heap.size ≤ (wr.alloc (.cells #[.bool false, .slice t1 x.length n1] 47)).heap.size by simp) hk5.below.size))
          obtain ⟨m0', m1', hbcl', m3', m4'⟩ := (hfB (below_step K5.out B3.out)).out
          have d1 : w5.cell? ⟨b1, o1 + (c.body.length - 1 - k) * 2 + 1, none⟩ = _ := (K5.out.cell (p := ⟨b1, o1 + (c.body.length - 1 - k) * 2 + 1, none⟩) l2).trans D1.out
          have hidx : ((c.body.length : Int) - 1 - (k : Int)).toNat = c.body.length - 1 - k := by omega
          have hid0 : (0 : Int) ≤ (c.body.length : Int) - 1 - (k : Int) := by omega
          have hid1 : (c.body.length : Int) - 1 - (k : Int) < (c.body.length : Int) := by omega
          clear hown5 hk5 hP hQ hne c1 m0 m1 m3 m4 hbcl m3' m4' hst
          go_wp2_with (at_builtin; (refine wpList_app_lit (wm := w5) (y := ⟨false, y⟩) rfl _ _ 29 rfl Try.underlying29 infoLit rfl Q5.out rfl Seq.way (hY2.out.at (K5.out.trans (Below.mono Seq.way hz5.out))) (fun b h _ => ⟨h, .inl h⟩) ((Row.new _ [_, _] _ rfl).cell (j := 0) (by simp)) ((Row.new _ [_, _] _ rfl).cell (j := 1) (by simp)) (by omega) hz5.out ?_))
          intro ao6 cap6 w6 hown6 hk6
          have H6 := Lib.hid (show Own litE (fun b => b < w3.heap.size) w3.heap.size 47 w6 _ ((plainL c.body.reverse).take (k + 1)) from by rw [hsr.out]; exact hown6)
          have K6 := Lib.hid (K5.out.trans (Below.trans (Below.mono (Seq.way : Below w5.heap.size w5 _) hz5.out) hk6.below))
          have P6 := Lib.hid (own_beside (H5.out.move (Seq.way : Below w5.heap.size w5 _)) hk6 hne5.out (fun b h => h))
          have hne6 := Lib.hid (show ∀ b, Value.ownBlock (.slice ao5 (k + 1) cap5) = some b → Value.ownBlock (.slice ao6 (k + 1) cap6) ≠ some b from fun b h e => by
            rcases hk6.blk with h1 | h1
            · exact hne5.out b h (h1 ▸ e)
            · have h2 := (H5.out.blk h).2
              rw [h1] at e
              simp only [Option.some.injEq, World.size_alloc] at e
              omega)
          clear hown6 hk6 m0' m1' d1 Q5 hne5
          go_wp2_with fail
          go_roundw
          case rel => exact ⟨k + 1, hlt, by go_num, by simpa using P6, by simpa using H6, by simpa using hne6, K6⟩
          case measure => simp [intOf]; omega
        · have hkn := Lib.hid (show k = c.body.length by omega)
          have hkl : ¬ (k : Int) < (c.body.length : Int) := by omega
          have PS0 := hP.out.seq (T := fun _ => True) (by rw [List.length_take, plainL_len]; omega) fun _ _ _ => trivial
          have QS0 := hQ.out.seq (T := fun _ => True) (by rw [List.length_take, plainL_len, List.length_reverse]; omega) fun _ _ _ => trivial
          rw [hkn.out, List.take_of_length_le (by rw [plainL_len]; omega)] at PS0
          rw [hkn.out, List.take_of_length_le (by rw [plainL_len, List.length_reverse]; omega)] at QS0
          obtain ⟨pa, pc, rfl⟩ := PS0.shape
          obtain ⟨qa, qc, rfl⟩ := QS0.shape
          have PS := Lib.hid PS0
          have QS := Lib.hid QS0
          have BZ := Lib.hid (below_step hbz.out B3.out)
          have hz3 := hbz.out.size
          clear PS0 QS0 hP hQ hne hbz hlt hbcl m3 m4
          obtain ⟨Z, rfl⟩ : ∃ Z, Z = wr := ⟨_, rfl⟩
          go_wp2_with fail
          clear m0 m1
          go_loopw [7, 8] (fun y z wz => ∃ (n : Nat) (o : Int), n ≤ 1000 ∧ z = .int .i64 n ∧ y = .int .i64 o ∧ Hid (o = -1 ∨ (0 ≤ o ∧ o < 1000 ∧ ∀ b ∈ c.body, ¬ o ∈ varsL b.t)) ∧ Hid (Below Z.heap.size Z wz)) (fun _ z _ => 1000 - (intOf z).toNat)
          case atStart => exact ⟨0, -1, by omega, rfl, rfl, Lib.hid (.inl rfl), Lib.hid (Below.refl _ _)⟩
          case round =>
            obtain ⟨n, o, hn, rfl, rfl, hfr, hbn⟩ := hrel
            obtain ⟨m0, m1, -, m3, -⟩ := (hfB (below_step hbn.out BZ.out)).out
            by_cases hlt : n < 1000
            · have hnI : (n : Int) < 1000 := by omega
              have hn0 : (0 : Int) ≤ (n : Int) := by omega
              have M3 := Lib.hid m3
              clear m3
              go_wp2_with fail
              refine (VarsR_spec (M3.out.at Seq.way) (by have := hhl.out; omega)).mono ?_
              rintro e x1 ⟨u1, rfl, hx1, hs1⟩
              obtain ⟨e1, f1, rfl⟩ := hs1.shape
              have X1 := Lib.hid (below_step (below_step hx1 Seq.way) hbn.out)
              have S1 := Lib.hid hs1
              clear hx1 hs1 m0 m1
              go_wp2_with fail
              refine (InT_spec (n := (n : Int)) (S1.out.at Seq.way)).mono ?_
              rintro e x2 ⟨rfl, rfl⟩
              obtain ⟨u0, hu0⟩ : ∃ u, u = decide ((n : Int) ∈ varsL c.head) := ⟨_, rfl⟩
              rw [← hu0]
              clear hu0
              have X2 := Lib.hid (below_step (Seq.way : Below x1.heap.size x1 _) X1.out)
              obtain ⟨m0, m1, -, -, -⟩ := (hfB (below_step X2.out BZ.out)).out
              go_wp2_with fail
              clear m0 m1
              go_loopw [9, 10] (fun y z wz => ∃ (i : Nat) (u : Bool), i ≤ c.body.length ∧ z = .int .i64 i ∧ y = .bool u ∧ Hid (u = false → FreeN c i n) ∧ Hid (Below Z.heap.size Z wz)) (fun _ z _ => c.body.length - (intOf z).toNat)
              case atStart => exact ⟨0, u0, Nat.zero_le _, rfl, rfl, Lib.hid (fun _ i b h => by omega), by first | exact X2 | exact Lib.hid (below_step Seq.way X2.out)⟩
              case round =>
                clear X1 X2
                obtain ⟨i, u, hi, rfl, rfl, hF, hbi⟩ := hrel
                obtain ⟨m0, m1, -, -, m4⟩ := (hfB (below_step hbi.out BZ.out)).out
                by_cases hil : i < c.body.length
                · have hiI : (i : Int) < (c.body.length : Int) := by omega
                  have hi0 : (0 : Int) ≤ (i : Int) := by omega
                  cases u with
                  | true =>
                    clear m4
                    go_wp2_with fail
                    go_roundw
                    case rel => exact ⟨n + 1, o, hlt, by go_num, rfl, hfr, hbi⟩
                    case measure => simp [intOf]; omega
                  | false =>
                    obtain ⟨_, _, ee, -, -, -, -, x5⟩ := m4
                    simp only [Value.slice.injEq, true_and] at ee
                    obtain ⟨rfl, rfl⟩ := ee
                    obtain ⟨b1, o1, t1, n1, rfl, -, l1, -, c1, hX⟩ := x5.lit hil
                    have HX := Lib.hid hX
                    have hxl := right_len (HMb.out _ (List.getElem_mem hil))
                    have hnx := Lib.hid (fun h => freeN_succ (hF.out rfl) hil h)
                    obtain ⟨x, hx⟩ : ∃ x, x = c.body[i].t := ⟨_, rfl⟩
                    rw [← hx] at c1 HX hxl hnx
                    clear hx x5 hX hF
                    go_wp2_with fail
                    refine (VarsR_spec (HX.out.at Seq.way) (by omega)).mono ?_
                    rintro e x3 ⟨u3, rfl, hx3, hs3⟩
                    obtain ⟨e3, f3, rfl⟩ := hs3.shape
                    have X3 := Lib.hid (below_step (below_step hx3 Seq.way) hbi.out)
                    have S3 := Lib.hid hs3
                    clear hx3 hs3 m0 m1 c1
                    go_wp2_with fail
                    refine (InT_spec (n := (n : Int)) (S3.out.at Seq.way)).mono ?_
                    rintro e x4 ⟨rfl, rfl⟩
                    have hnx2 := Lib.hid (show decide ((n : Int) ∈ varsL x) = false → FreeN c (i + 1) n from fun h => hnx.out (of_decide_eq_false h))
                    obtain ⟨u4, hu4⟩ : ∃ u, u = decide ((n : Int) ∈ varsL x) := ⟨_, rfl⟩
                    rw [← hu4] at hnx2 ⊢
                    clear hu4 hnx
                    go_wp2_with fail
                    go_roundw
                    case rel => exact ⟨i + 1, u4, hil, by go_num, rfl, hnx2, Lib.hid (below_step Seq.way X3.out)⟩
                    case measure => simp [intOf]; omega
                · have hiI : ¬ (i : Int) < (c.body.length : Int) := by omega
                  clear m4
                  cases u with
                  | true =>
                    go_wp2_with fail
                    go_roundw
                    case rel => exact ⟨n + 1, o, hlt, by go_num, rfl, hfr, hbi⟩
                    case measure => simp [intOf]; omega
                  | false =>
                    have hfn := Lib.hid (show ((n : Int) = -1 ∨ (0 ≤ (n : Int) ∧ (n : Int) < 1000 ∧ ∀ b ∈ c.body, ¬ (n : Int) ∈ varsL b.t)) from .inr ⟨hn0, hnI, freeN_all (by have := hF.out rfl; rwa [show i = c.body.length by omega] at this)⟩)
                    go_wp2_with fail
                    go_roundw
                    case rel => exact ⟨n + 1, n, hlt, by go_num, rfl, hfn, hbi⟩
                    case measure => simp [intOf]; omega
            · have hnI : ¬ (n : Int) < 1000 := by omega
              clear hlt
              have V1 := Lib.hid (show ClsV (fun _ => True) wr (.agg #[.slice ha c.head.length hcc, .slice pa (plainL c.body).length pc]) ⟨c.head, plainL c.body⟩ from ⟨ha, hcc, pa, pc, rfl, m3, PS.out.at hbn.out⟩)
              clear m3
              go_wp2_with fail
              refine (SafeP_spec (V1.out.at Seq.way)).mono ?_
              rw [plainL_safe HS.out]
              rintro e y1 ⟨rfl, hy1⟩
              have Y1 := Lib.hid (below_step (below_step hy1 Seq.way) hbn.out)
              clear hy1 m0 m1
              obtain ⟨m0, m1, -, m3, -⟩ := (hfB (below_step Y1.out BZ.out)).out
              have V2 := Lib.hid (show ClsV (fun _ => True) y1 (.agg #[.slice ha c.head.length hcc, .slice qa (plainL c.body.reverse).length qc]) ⟨c.head, plainL c.body.reverse⟩ from ⟨ha, hcc, qa, qc, rfl, m3, QS.out.at Y1.out⟩)
              clear m3
              go_wp2_with fail
              refine (SafeP_spec (V2.out.at Seq.way)).mono ?_
              rw [plainL_safeR HS.out]
              rintro e y2 ⟨rfl, hy2⟩
              have Y2 := Lib.hid (below_step (below_step hy2 Seq.way) Y1.out)
              clear hy2 m0 m1
              obtain ⟨m0, m1, hbcl, m3, m4⟩ := (hfB (below_step Y2.out BZ.out)).out
              by_cases ho : o < 0
              · clear m3 m4
                go_wp2_with fail
                go_ret
                exact ⟨rfl, below_step (below_step (below_step Seq.way Y2.out) BZ.out) HBW.out⟩
              · by_cases h8 : c.body.length = 8
                · have h8I : ((c.body.length : Int) == 8) = true := by simp; omega
                  have H8 := Lib.hid h8
                  clear m3 m4 h8
                  go_wp2_with fail
                  go_ret
                  exact ⟨rfl, below_step (below_step (below_step Seq.way Y2.out) BZ.out) HBW.out⟩
                · have h8I : ((c.body.length : Int) == 8) = false := beq_eq_false_iff_ne.2 (by omega)
                  have hfo : 0 ≤ o ∧ o < 1000 ∧ ∀ b ∈ c.body, ¬ o ∈ varsL b.t := by
                    rcases hfr.out with h | h
                    · omega
                    · exact h
                  have HFo := Lib.hid hfo
                  have hio := nOK o (by omega)
                  have hodd := Lib.hid (safe_odd (c := c) (atomL_var ⟨#[110]⟩ HFo.out.1) HFo.out.2.2)
                  have M3 := Lib.hid m3
                  have hown0 : Own litE (fun _ => True) y2.heap.size 47 (y2.alloc (.cells #[] 47)) (.slice (some ⟨y2.heap.size, 0, none⟩) 0 0) ([] : List Lit) := Own.lit0 rfl (Nat.le_refl _) rfl
                  have hbd := Lib.hid (m4.bnd.at (Seq.way : Below y2.heap.size y2 (y2.alloc (.cells #[] 47))))
                  have m1a : (y2.alloc (.cells #[] 47)).cell? ⟨bc, 1, none⟩ = _ := (Below.cell (Seq.way : Below y2.heap.size y2 _) (p := ⟨bc, 1, none⟩) hbcl).trans m1
                  clear m3 m4 hfo h8
                  go_wp2_with (at_builtin; (refine wpList_appL (E := litE) (S := fun _ => True) (wm := y2.alloc (.cells #[] 47)) (zs := c.body) rfl _ _ 29 rfl Try.underlying29 infoLit rfl rfl hown0 (Below.refl _ _) rfl hbd.out (fun b h _ => ⟨trivial, .inl h.2⟩) rfl (by omega) (by omega) (by simp) ?_))
                  intro ao7 cap7 y3 hown7 hk7
                  have O7 := Lib.hid hown7
                  have K7 := Lib.hid ((Seq.way : Below y2.heap.size y2 (y2.alloc (.cells #[] 47))).trans hk7.below)
                  clear hown7 hk7 hown0 hbd m0 m1 m1a
                  go_wp2_with fail
                  refine (atomLw2_spec (by decide) hio).mono ?_
                  rintro e y4 ⟨v4, rfl, hb4, hs4⟩
                  obtain ⟨a4, c4, rfl⟩ := hs4.shape
                  have S4 := Lib.hid hs4
                  have B4 := Lib.hid (below_step hb4 (Seq.way : Below y3.heap.size y3 _))
                  have hz3 := K7.out.size
                  clear hs4 hb4
                  go_wp2_with (at_builtin; (refine wpList_app_lit (wm := y3) (y := ⟨true, atomL ⟨#[110]⟩ o⟩) rfl _ _ 29 rfl Try.underlying29 infoLit rfl O7.out rfl (below_step Seq.way B4.out) (S4.out.at Seq.way) (fun b h _ => ⟨trivial, .inr (by simpa using h)⟩) ((Row.new _ [_, _] _ rfl).cell (j := 0) (by simp)) ((Row.new _ [_, _] _ rfl).cell (j := 1) (by simp)) (by omega) hz3 ?_))
                  intro ao8 cap8 y5 hown8 hk8
                  have Q8 := Lib.hid (show Seq litE (fun _ => True) y5 (.slice ao8 (c.body.length + 1) cap8) (c.body ++ [⟨true, atomL ⟨#[110]⟩ o⟩]) from by
                    have := hown8.seq (T := fun _ => True) (by rw [List.length_append, List.length_singleton]; omega) fun _ _ _ => trivial
                    simpa using this)
                  have K8 := Lib.hid (show Below y2.heap.size y2 y5 from (K7.out.trans (Below.mono (below_step (Seq.way : Below y4.heap.size y4 _) B4.out) hz3)).trans hk8.below)
                  clear hown8 hk8
                  obtain ⟨m0, m1, -, m3, -⟩ := (hfB (below_step (below_step K8.out Y2.out) BZ.out)).out
                  have V3 := Lib.hid (show ClsV (fun _ => True) y5 (.agg #[.slice ha c.head.length hcc, .slice ao8 (c.body.length + 1) cap8]) ⟨c.head, c.body ++ [⟨true, atomL ⟨#[110]⟩ o⟩]⟩ from ⟨ha, hcc, ao8, cap8, by simp, m3, by simpa using Q8.out⟩)
                  clear m3
                  go_wp2_with fail
                  refine (SafeP_spec (V3.out.at Seq.way)).mono ?_
                  rw [hodd.out]
                  rintro e y6 ⟨rfl, hy6⟩
                  have Y6 := Lib.hid (below_step (below_step hy6 Seq.way) K8.out)
                  clear hy6 m0 m1
                  go_wp2_with fail
                  go_ret
                  exact ⟨rfl, below_step (below_step (below_step (below_step Seq.way Y6.out) Y2.out) BZ.out) HBW.out⟩
end Go.Proofs.Ytadbdmnngmlnhaa
