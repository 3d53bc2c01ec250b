/-
  Layer 7, the program: where a predicate stands (slices.BinarySearchFunc), and the place of an atom's one.
  Layer 7, the program: the place of an atom's predicate; links.
-/
import Derived.Test.YtadbdmnngmlnhaaPgU
import Derived.Test.YtadbdmnngmlnhaaPgI
import Derived.Deep.CutBlock
import Derived.Test.YtadbdmnngmlnhaaPhE
import Derived.Test.YtadbdmnngmlnhaaPhC
namespace Go.Proofs.Ytadbdmnngmlnhaa
section
open Go Go.RowKit Go.Sort

theorem below_grow {B : Nat} {w w' : World} (h : Below B w w') (hB : B ≤ w.heap.size) (os : Array Obj) : Below B w (grow w' os) :=
  ⟨h.os, h.tape, h.output, by rw [size_grow]; have := h.size; omega, fun k hk => by rw [heap_grow_old _ _ (Nat.lt_of_lt_of_le hk (Nat.le_trans hB h.size))]; exact h.block k hk⟩
theorem CompareP_ret (x y : Prd) (w : World) : Calls Try.prog 51 #[.agg #[.string x.name, .int .i64 x.n], .agg #[.string y.name, .int .i64 y.n]] w (RetV (.int .i64 (cmpP x y)) w) := by
  refine (CompareP_spec x y w).mono ?_
  rintro e w' ⟨rfl, q, os', rfl⟩
  exact ⟨rfl, below_grow (below_drewN (Below.refl _ _) q) (Nat.le_refl _) os'⟩

set_option maxHeartbeats 6400000 in
set_option maxRecDepth 100000 in
theorem searchP_spec {S : Nat → Prop} {w : World} {v : Value} {l : List Prd} {x : Prd} (hl : Seq prdE S w v l) (hs : Srt cmpP l) (hlen : l.length ≤ 1000000) :
    Calls Try.prog 55 #[v, .agg #[.string x.name, .int .i64 x.n], .func (.func 51) #[] #[]] w fun e w' => ∃ b : Bool, e = .returned (.tuple #[.int .i64 (lowC cmpP x l : Nat), .bool b]) ∧ Below w.heap.size w w' := by
  obtain ⟨W, hW⟩ : ∃ W, W = w.alloc (.cells #[.string x.name, .int .i64 x.n] 24) := ⟨_, rfl⟩
  have HBW := Lib.hid (show Below w.heap.size w W by rw [hW]; exact Seq.way)
  have HR := Lib.hid (show RowA 24 W w.heap.size [.string x.name, .int .i64 x.n] by rw [hW]; exact Row.new w [_, _] _ rfl)
  have HW := Lib.hid hW
  have HL := Lib.hid (hl.at HBW.out)
  obtain ⟨ao, cap, rfl, -⟩ := hl
  have Hs := Lib.hid hs
  obtain ⟨bt, hbt⟩ : ∃ b, b = w.heap.size := ⟨_, rfl⟩
  have Hbt := Lib.hid hbt
  have Kr := fun {W' : World} (h : Below W.heap.size W W') => Lib.hid (show W'.cell? ⟨bt, 0, none⟩ = some (.string x.name) ∧ W'.cell? ⟨bt, 1, none⟩ = some (.int .i64 x.n) from by
    rw [Hbt.out]; exact ⟨(HR.out.at h).row.cell (j := 0) (by simp), (HR.out.at h).row.cell (j := 1) (by simp)⟩)
  clear hs hW hbt
  go_enter Try.func55, Try.ntmps55
  go_upto_region 1 with fail
  rw [← HW.out, ← Hbt.out]
  go_wp2_with fail
  go_loopw [9, 10] (fun i j wr => ∃ a b : Nat, a ≤ b ∧ b ≤ l.length ∧ i = .int .i64 a ∧ j = .int .i64 b ∧ Hid ((∀ t (ht : t < l.length), t < a → cmpP l[t] x < 0) ∧ (∀ t (ht : t < l.length), b ≤ t → 0 ≤ cmpP l[t] x)) ∧
    Hid (Below W.heap.size W wr)) (fun i j _ => (intOf j).toNat - (intOf i).toNat)
  case atStart => exact ⟨0, l.length, Nat.zero_le _, Nat.le_refl _, rfl, rfl, Lib.hid ⟨fun t _ h => by omega, fun t ht h => by omega⟩, Lib.hid (Below.refl _ _)⟩
  case round =>
    obtain ⟨a, b, hab, hbl, rfl, rfl, hno, hwr⟩ := hrel
    have hzr := hwr.out.size
    by_cases hlt : a < b
    · obtain ⟨m, hm⟩ : ∃ m, m = (a + b) / 2 := ⟨_, rfl⟩
      have hml : (a + b) / 2 < l.length := by omega
      obtain ⟨_, _, ee, -, -, -, -, x5⟩ := HL.out.at hwr.out
      simp only [Value.slice.injEq, true_and] at ee
      obtain ⟨rfl, rfl⟩ := ee
      obtain ⟨rb, ro, rfl, -, hbb, g0, g1, ok1, ok2⟩ := x5.prd hml
      have hi0 : 0 ≤ ((a : Int) + (b : Int)) / 2 := by omega
      have hi2 : (((a : Int) + (b : Int)) / 2).toNat = (a + b) / 2 := by omega
      have hi1 : ((a : Int) + (b : Int)) / 2 < (l.length : Int) := by omega
      obtain ⟨y, hy⟩ : ∃ y, y = l[(a + b) / 2] := ⟨_, rfl⟩
      have Hy := Lib.hid hy
      rw [← hy] at g0 g1
      have Hm := Lib.hid hm
      obtain ⟨s0, s1⟩ := (Kr hwr.out).out
      clear hy hm x5
      go_wp2_with fail
      obtain ⟨c, hc⟩ : ∃ c, c = cmpP y x := ⟨_, rfl⟩
      have Hc := Lib.hid hc
      clear hc
      go_still_tail 6, (by kernel_rfl)
      go_wp2_with fail
      refine (CompareP_ret y x _).mono ?_
      rw [← Hc.out]
      rintro e w3 ⟨rfl, hb3⟩
      have Hb3 := Lib.hid (below_step (below_step hb3 Seq.way) hwr.out)
      clear hb3 g0 g1 s0 s1
      by_cases hcn : c < 0
      · have hnx := Lib.hid (show (∀ t (ht : t < l.length), t < m + 1 → cmpP l[t] x < 0) ∧ (∀ t (ht : t < l.length), b ≤ t → 0 ≤ cmpP l[t] x) by
          refine ⟨fun t ht h => ?_, hno.out.2⟩
          have h1 : cmpP l[(a + b) / 2] x < 0 := by rw [← Hy.out, ← Hc.out]; exact hcn
          rcases Nat.lt_or_eq_of_le (show t ≤ (a + b) / 2 by have := Hm.out; omega) with h2 | h2
          · exact cmpP_ok.trans (List.pairwise_iff_getElem.1 Hs.out t _ ht hml h2) h1
          · subst h2; exact h1)
        have hm1 : m + 1 ≤ b := by have := Hm.out; omega
        have Hmi := Lib.hid (show ((a : Int) + (b : Int)) / 2 + 1 = ((m + 1 : Nat) : Int) by have := Hm.out; omega)
        go_wp2_with fail
        go_roundw
        case rel => exact ⟨m + 1, b, hm1, hbl, by rw [Hmi.out], rfl, hnx, Hb3⟩
        case measure =>
          have := Hmi.out
          simp only [intOf]; omega
      · have hnx := Lib.hid (show (∀ t (ht : t < l.length), t < a → cmpP l[t] x < 0) ∧ (∀ t (ht : t < l.length), m ≤ t → 0 ≤ cmpP l[t] x) by
          refine ⟨hno.out.1, fun t ht h => ?_⟩
          refine Int.not_lt.1 fun h2 => hcn ?_
          rw [Hc.out, Hy.out]
          rcases Nat.lt_or_eq_of_le (show (a + b) / 2 ≤ t by have := Hm.out; omega) with h1 | h1
          · exact cmpP_ok.trans (List.pairwise_iff_getElem.1 Hs.out _ t hml ht h1) h2
          · subst h1; exact h2)
        have hm1 : m ≤ l.length := by have := Hm.out; omega
        have hm2 : a ≤ m := by have := Hm.out; omega
        have hm3 : m < b := by have := Hm.out; omega
        have Hmi := Lib.hid (show ((a : Int) + (b : Int)) / 2 = (m : Int) by have := Hm.out; omega)
        go_wp2_with fail
        go_roundw
        case rel => exact ⟨a, m, hm2, hm1, rfl, by rw [Hmi.out], hnx, Hb3⟩
        case measure =>
          have := Hmi.out
          simp only [intOf]; omega
    · have Hab := Lib.hid (show b = a by omega)
      have hge : ¬ (a : Int) < (b : Int) := by omega
      have Hia := Lib.hid (show a = lowC cmpP x l from lowC_uniq cmpP_ok Hs.out (by omega) (fun i hi h => hno.out.1 i hi h) fun i hi h => Int.not_lt.2 (hno.out.2 i hi (by rw [Hab.out]; exact h)))
      have hal2 : a ≤ l.length := by omega
      clear hlt hno
      by_cases hal : a < l.length
      · obtain ⟨_, _, ee, -, -, -, -, x5⟩ := HL.out.at hwr.out
        simp only [Value.slice.injEq, true_and] at ee
        obtain ⟨rfl, rfl⟩ := ee
        obtain ⟨rb, ro, rfl, -, hbb, g0, g1, ok1, ok2⟩ := x5.prd hal
        obtain ⟨y, hy⟩ : ∃ y, y = l[a] := ⟨_, rfl⟩
        rw [← hy] at g0 g1
        obtain ⟨s0, s1⟩ := (Kr hwr.out).out
        have hal3 : (a : Int) < (l.length : Int) := by omega
        have ha0 : (0 : Int) ≤ (a : Int) := by omega
        have Kq := fun {W' : World} (h : Below wr.heap.size wr W') => Lib.hid (show W'.cell? ⟨bt, 0, none⟩ = some (.string x.name) ∧ W'.cell? ⟨bt, 1, none⟩ = some (.int .i64 x.n) ∧ W'.cell? ⟨rb, ro + a * 2, none⟩ = some (.string y.name) ∧ W'.cell? ⟨rb, ro + a * 2 + 1, none⟩ = some (.int .i64 y.n) from
          ⟨((Kr (below_step h hwr.out)).out).1, ((Kr (below_step h hwr.out)).out).2, (h.cell (p := ⟨rb, ro + a * 2, none⟩) hbb).trans g0, (h.cell (p := ⟨rb, ro + a * 2 + 1, none⟩) hbb).trans g1⟩)
        clear hy x5 ok1 ok2 hal g0 g1 s0 s1
        go_upto_region 8 with fail
        go_region_held3 (fun w' => w'.cell? ⟨bt, 0, none⟩ = some (.string x.name) ∧ w'.cell? ⟨bt, 1, none⟩ = some (.int .i64 x.n) ∧ w'.cell? ⟨rb, ro + a * 2, none⟩ = some (.string y.name) ∧ w'.cell? ⟨rb, ro + a * 2 + 1, none⟩ = some (.int .i64 y.n))
          (first | exact (Kq (Below.refl _ _)).out | exact (Kq Seq.way).out | go_keep)
          (first | (go_at_call 51; refine (CompareP_ret y x _).mono ?_; rintro e y1 ⟨rfl, hb1⟩; have hb1w : Below wr.heap.size wr y1 := below_step hb1 Seq.way))
        have Hb1 := Lib.hid (below_step (below_step hb1w hwr.out) HBW.out)
        clear hb1 hb1w Kq
        go_wp2_with fail
        go_ret2
        exact ⟨cmpP y x == 0, by rw [← Hia.out]; rfl, below_step Seq.way Hb1.out⟩
      · have hal3 : ¬ (a : Int) < (l.length : Int) := by omega
        clear hal
        go_upto_region 8 with fail
        go_quiet (fail)
        go_wp2_with fail
        go_ret2
        exact ⟨.inl (by rw [← Hia.out]; rfl), below_step (below_step Seq.way hwr.out) HBW.out⟩
end
section
open Go Go.RowKit Go.Sort

set_option maxHeartbeats 3200000 in
set_option maxRecDepth 100000 in
theorem place_spec {S T : Nat → Prop} {w : World} {v u : Value} {t : List Cell} {P : List Prd} {bp : Nat} (hc : w.cell? ⟨bp, 0, none⟩ = some u) (hbp : bp < w.heap.size) (hP : Seq prdE S w u P) (hs : Srt cmpP P) (hlen : P.length ≤ 1000000) (ht : Seq cellE T w v t) (hl : 0 < t.length) :
    Calls Try.prog 54 #[v, .pointer (some ⟨bp, 0, none⟩)] w (RetV (.int .i64 (lowC cmpP (prT t) P : Nat)) w) := by
  have HP := Lib.hid hP
  have HT := Lib.hid ht
  have Hs := Lib.hid hs
  obtain ⟨pa, pc, rfl⟩ := hP.shape
  obtain ⟨ta, tc, rfl⟩ := ht.shape
  have h1 := Lib.hid (fun (W' : World) (h : Below w.heap.size w W') => PredP_spec (w := W') (HT.out.at h) hl)
  obtain ⟨x, hx⟩ : ∃ x, x = prT t := ⟨_, rfl⟩
  rw [← hx] at h1 ⊢
  unfold prdV at h1
  have h2 := Lib.hid (fun (W' : World) (h : Below w.heap.size w W') => searchP_spec (w := W') (x := x) (HP.out.at h) Hs.out hlen)
  have Kr := fun {W' : World} (h : Below w.heap.size w W') => Lib.hid (show W'.cell? ⟨bp, 0, none⟩ = some (.slice pa P.length pc) from (h.cell (p := ⟨bp, 0, none⟩) hbp).trans hc)
  obtain ⟨q, hq⟩ : ∃ q : Nat, q = lowC cmpP x P := ⟨_, rfl⟩
  rw [← hq] at h2 ⊢
  clear hs hP ht hx hq hl
  go_enter Try.func54, Try.ntmps54
  go_upto_region 1 with fail
  go_region_held3 (fun w' => w'.cell? ⟨bp, 0, none⟩ = some (.slice pa P.length pc))
    (first | exact (Kr (Below.refl _ _)).out | exact (Kr Seq.way).out | go_keep)
    (first
      | (go_at_call 49; refine (h1.out _ Seq.way).mono ?_; rintro e y1 ⟨rfl, hb1⟩; have hb1' : Below w.heap.size w y1 := below_step hb1 Seq.way)
      | (go_at_call 55; refine (h2.out _ Seq.way).mono ?_; rintro e y2 ⟨b2, rfl, hb2⟩; have hb2' : Below w.heap.size w y2 := below_step hb2 Seq.way))
  go_wp2_with fail
  go_ret
  exact ⟨rfl, below_step Seq.way hb2'⟩
/-- The links of clauses, told one by one. -/
def rowK (P : List Prd) (c : Cls) (j : Nat) : List Lnk := (c.body.take j).map fun b => ⟨lowC cmpP (prT c.head) P, lowC cmpP (prT b.t) P, b.neg⟩
def toK (l : List Cls) (k : Nat) : List Lnk := (l.take k).flatMap fun c => c.body.map fun b => ⟨lowC cmpP (prT c.head) (predsL l), lowC cmpP (prT b.t) (predsL l), b.neg⟩
theorem toK_succ {l : List Cls} {k : Nat} (h : k < l.length) : toK l (k + 1) = toK l k ++ rowK (predsL l) l[k] l[k].body.length := by
  unfold toK rowK; rw [List.take_succ_eq_append_getElem h, List.flatMap_append, List.take_length]; simp
theorem rowK_succ {P : List Prd} {c : Cls} {j : Nat} (h : j < c.body.length) : rowK P c (j + 1) = rowK P c j ++ [⟨lowC cmpP (prT c.head) P, lowC cmpP (prT c.body[j].t) P, c.body[j].neg⟩] := by
  unfold rowK; rw [List.take_succ_eq_append_getElem h, List.map_append]; rfl
theorem rowK_len {P : List Prd} {c : Cls} {j : Nat} : (rowK P c j).length ≤ j := by unfold rowK; rw [List.length_map, List.length_take]; omega
theorem toK_len {l : List Cls} (h : ∀ c ∈ l, mayC c = true) : ∀ {k : Nat}, k ≤ l.length → (toK l k).length ≤ 8 * k
  | 0, _ => by simp [toK]
  | k + 1, hk => by
    have h1 := toK_len h (k := k) (by omega)
    have h2 := (mayC_parts (h _ (List.getElem_mem (show k < l.length by omega)))).2.2
    have h3 := rowK_len (P := predsL l) (c := l[k]) (j := l[k].body.length)
    rw [toK_succ (by omega), List.length_append]; omega
section
variable {P : Program} {ops : Array Oper} {rest : List Oper} {o : Oper} {a : Act} {Q : Exit → Act → World → Prop}
theorem step_app_lnk {S : Nat → Prop} {w wm : World} {K : Act → World → Prop} {X : Prop} (hgd : o.guard = none) (s x : Operand) (t : TypeId)
    (ho : o.op = .call { callee := .builtin .append, args := #[s, x], argTypes := #[t, t] })
    {base : Nat} {e : TypeId} (ht : P.underlying t = some (.slice e)) (hi : (P.info? e).map (fun i => (i.zero, i.size, i.bytes)) = some (some (.agg #[.int .i64 0, .int .i64 0, .bool false]), 3, 24))
    {v : Value} {xs : List Lnk} (hs : a.eval s = v) (hown : Own lnkE S base e wm v xs) {B c : Nat} (hx : a.eval x = .slice (some ⟨B, 0, none⟩) 1 c)
    (hbw : Below wm.heap.size wm w) {y : Lnk} (h1 : y.fr ≤ 1000000) (h2 : y.2 ≤ 1000000)
    (hc0 : w.cell? ⟨B, 0, none⟩ = some (.int .i64 y.fr)) (hc1 : w.cell? ⟨B, 1, none⟩ = some (.int .i64 y.2)) (hc2 : w.cell? ⟨B, 2, none⟩ = some (.bool y.neg)) (hbytes : xs.length ≤ 1000000000000) (hbase : base ≤ wm.heap.size)
    (h : ∀ ao cap w', Own lnkE S base e w' (.slice ao (xs.length + 1) cap) (xs ++ [y]) → Kept base wm w w' v (.slice ao (xs.length + 1) cap) → K (a.put o.dst (.slice ao (xs.length + 1) cap)) w') :
    if Region.wanted o (yielded ops a.tmps) = true then o.wp P a w K Q else X := by
  rw [if_pos (by simp [Region.wanted, hgd])]
  exact wp_app1 (E := lnkE) (Sy := fun _ => False) (y := y) (cs := [.int .i64 y.fr, .int .i64 y.2, .bool y.neg]) s x t ho ht hi rfl hs hown hbw _ _ hx ⟨rfl, h1, h2⟩ (fun _ h => h.elim)
    (by
      intro j hj
      have h3 : j < 3 := hj
      rcases (show j = 0 ∨ j = 1 ∨ j = 2 by omega) with rfl | rfl | rfl
      · exact hc0
      · exact hc1
      · exact hc2) (by omega) (by simp only [maxLen]; omega) hbase h
end
set_option maxHeartbeats 6400000 in
set_option maxRecDepth 100000 in
theorem LinksP_spec {S : Nat → Prop} {w : World} {v : Value} {l : List Cls} (hl : Seq clsE S w v l) (hmay : ∀ c ∈ l, mayC c = true) (hlen : l.length ≤ 1000) :
    Calls Try.prog 26 #[v] w (Ret (fun r w' => Seq lnkE (fun b => w.heap.size ≤ b) w' r (linksL l)) w) := by
  have HL := Lib.hid hl
  have HMay := Lib.hid hmay
  have HTl := Lib.hid (fun k hk => toK_len hmay (k := k) hk)
  have hpn : (predsL l).length ≤ 9000 := by have h1 := setL_le (c := cmpP) (allP l); have h2 := allP_len hmay; unfold predsL; omega
  obtain ⟨aa, ac, rfl, -⟩ := hl
  clear hmay
  go_enter Try.func26, Try.ntmps26
  go_wp2_with fail
  refine (PredsP_spec HL.out HMay.out hlen).mono ?_
  rintro e w1 ⟨v1, rfl, hb1, hs1⟩
  obtain ⟨pa, pc, rfl⟩ := hs1.shape
  obtain ⟨W0, hW0⟩ : ∃ W0, W0 = w1.alloc (.cells #[.slice pa (predsL l).length pc] 36) := ⟨_, rfl⟩
  have HB0 := Lib.hid (show Below w.heap.size w W0 by rw [hW0]; exact below_step Seq.way hb1)
  have HR0 := Lib.hid (show RowA 36 W0 w1.heap.size [.slice pa (predsL l).length pc] by rw [hW0]; exact Row.new w1 [_] _ rfl)
  have HP0 := Lib.hid (show Seq prdE (fun b => w.heap.size ≤ b) W0 (.slice pa (predsL l).length pc) (predsL l) by rw [hW0]; exact hs1.at Seq.way)
  obtain ⟨bp, hbp⟩ : ∃ b, b = w1.heap.size := ⟨_, rfl⟩
  have Hbp := Lib.hid (show bp < W0.heap.size by rw [hbp]; exact HR0.out.row.lt)
  have hfP := fun {w' : World} (h : Below W0.heap.size W0 w') => Lib.hid (show w'.cell? ⟨bp, 0, none⟩ = some (.slice pa (predsL l).length pc) from by rw [hbp]; exact (HR0.out.at h).row.cell (j := 0) (by simp))
  have HW0 := Lib.hid hW0
  have Hbpe := Lib.hid hbp
  clear hs1 hb1 hW0 hbp
  go_upto_region 4 with fail
  rw [← HW0.out, ← Hbpe.out]
  go_wp2_with fail
  go_loopw [3, 15] (fun o i wr => ∃ k : Nat, k ≤ l.length ∧ i = .int .i64 k ∧ Hid (Own lnkE (fun _ => False) W0.heap.size 57 wr o (toK l k)) ∧ Hid (Below W0.heap.size W0 wr)) (fun _ i _ => l.length - (intOf i).toNat)
  case atStart => exact ⟨0, Nat.zero_le _, rfl, Lib.hid (Own.nil _ _ _ _ _), Lib.hid (Below.refl _ _)⟩
  case round =>
    obtain ⟨k, hk, rfl, hO, hbr⟩ := hrel
    have hzr := hbr.out.size
    by_cases hlt : k < l.length
    · obtain ⟨_, _, ee, -, -, -, -, x5⟩ := HL.out
      simp only [Value.slice.injEq, true_and] at ee
      obtain ⟨rfl, rfl⟩ := ee
      obtain ⟨b1, o1, ha, hc, la, lc, rfl, -, l1, c0, c1, hH, hB⟩ := x5.cls hlt
      replace c0 : wr.cell? ⟨b1, o1 + k * 2, none⟩ = _ := ((below_step hbr.out HB0.out).cell (p := ⟨b1, o1 + k * 2, none⟩) l1).trans c0
      replace c1 : wr.cell? ⟨b1, o1 + k * 2 + 1, none⟩ = _ := ((below_step hbr.out HB0.out).cell (p := ⟨b1, o1 + k * 2 + 1, none⟩) l1).trans c1
      have hst := Lib.hid (toK_succ hlt)
      have hAl := HTl.out k (by omega)
      obtain ⟨m1, m2, m3⟩ := mayC_parts (HMay.out _ (List.getElem_mem hlt))
      have HH := Lib.hid hH
      have HB := Lib.hid hB
      obtain ⟨c, hcx⟩ : ∃ c, c = l[k] := ⟨_, rfl⟩
      rw [← hcx] at c0 c1 HH HB hst m1 m2 m3
      have hM1 := Lib.hid m1
      have hpos := m2.pos
      obtain ⟨A, hA⟩ : ∃ A, A = toK l k := ⟨_, rfl⟩
      rw [← hA] at hO hst hAl
      have hkI : (k : Int) < (l.length : Int) := by omega
      have hk0 : (0 : Int) ≤ (k : Int) := by omega
      have hAl2 : A.length ≤ 9000 := by omega
      obtain ⟨W1, hW1⟩ : ∃ W1, W1 = wr.alloc (.cells #[.slice ha c.head.length hc, .slice la c.body.length lc] 31) := ⟨_, rfl⟩
      have HbW1 := Lib.hid (show Below wr.heap.size wr W1 by rw [hW1]; exact Seq.way)
      have HR1 := Lib.hid (show RowA 31 W1 wr.heap.size [.slice ha c.head.length hc, .slice la c.body.length lc] by rw [hW1]; exact Row.new wr [_, _] _ rfl)
      obtain ⟨bc, hbc⟩ : ∃ b, b = wr.heap.size := ⟨_, rfl⟩
      have d0 : W1.cell? ⟨bc, 0, none⟩ = some (.slice ha c.head.length hc) := by rw [hbc]; exact HR1.out.row.cell (j := 0) (by simp)
      have d1 : W1.cell? ⟨bc, 1, none⟩ = some (.slice la c.body.length lc) := by rw [hbc]; exact HR1.out.row.cell (j := 1) (by simp)
      have hbl : bc < W1.heap.size := by rw [hbc]; exact HR1.out.row.lt
      have HO1 := Lib.hid (hO.out.move HbW1.out)
      have HS1 := Lib.hid (hbr.out.trans (HbW1.out.mono hzr))
      have HW1 := Lib.hid hW1
      have Hbc := Lib.hid hbc
      clear hcx x5 hH hB m1 m2 hA hAl hW1 hbc
      go_wp2_with fail
      rw [← HW1.out, ← Hbc.out]
      go_loopw [3, 22] (fun o i wz => ∃ j : Nat, j ≤ c.body.length ∧ i = .int .i64 j ∧ Hid (Own lnkE (fun _ => False) W0.heap.size 57 wz o (A ++ rowK (predsL l) c j)) ∧ Hid (o.ownBlock ≠ some bc) ∧ Hid (wz.cell? ⟨bc, 0, none⟩ = some (.slice ha c.head.length hc) ∧ bc < wz.heap.size) ∧ Hid (Below W0.heap.size W0 wz)) (fun _ i _ => c.body.length - (intOf i).toNat)
      case atStart => exact ⟨0, Nat.zero_le _, rfl, Lib.hid (by unfold rowK; simpa using HO1.out), Lib.hid (fun hq => by have h1 := (hO.out.blk hq).2; have h2 := Hbc.out; omega), Lib.hid ⟨d0, hbl⟩, HS1⟩
      case round =>
        clear hO HO1 HS1 hbr hzr d0 d1 hbl
        obtain ⟨j, hj, rfl, hO5, hne, hcell, hbz⟩ := hrel
        have hzz := hbz.out.size
        by_cases hjl : j < c.body.length
        · obtain ⟨_, _, ee, -, -, -, -, x6⟩ := HB.out
          simp only [Value.slice.injEq, true_and] at ee
          obtain ⟨rfl, rfl⟩ := ee
          obtain ⟨b2, o2, ta, tc, rfl, -, l3, e0, e1, hT⟩ := x6.lit hjl
          replace e0 : wr.cell? ⟨b2, o2 + j * 2, none⟩ = _ := ((below_step hbz.out HB0.out).cell (p := ⟨b2, o2 + j * 2, none⟩) l3).trans e0
          replace e1 : wr.cell? ⟨b2, o2 + j * 2 + 1, none⟩ = _ := ((below_step hbz.out HB0.out).cell (p := ⟨b2, o2 + j * 2 + 1, none⟩) l3).trans e1
          have HT := Lib.hid hT
          have hjx := Lib.hid (show A ++ rowK (predsL l) c (j + 1) = (A ++ rowK (predsL l) c j) ++ [⟨lowC cmpP (prT c.head) (predsL l), lowC cmpP (prT c.body[j].t) (predsL l), c.body[j].neg⟩] by rw [rowK_succ hjl, List.append_assoc])
          have hxp := (hM1.out _ (List.getElem_mem hjl)).pos
          obtain ⟨xn, hxn⟩ : ∃ x, x = c.body[j].neg := ⟨_, rfl⟩
          obtain ⟨x, hx⟩ : ∃ x, x = c.body[j].t := ⟨_, rfl⟩
          rw [← hxn] at e0 hjx
          rw [← hx] at e1 HT hjx hxp
          obtain ⟨Q, hQ⟩ : ∃ Q, Q = A ++ rowK (predsL l) c j := ⟨_, rfl⟩
          have hQl : Q.length ≤ 9100 := by rw [hQ, List.length_append]; have := rowK_len (P := predsL l) (c := c) (j := j); omega
          rw [← hQ] at hO5 hjx
          have hjI : (j : Int) < (c.body.length : Int) := by omega
          have hj0 : (0 : Int) ≤ (j : Int) := by omega
          have hsp1 := Lib.hid (fun (W' : World) (h : Below W0.heap.size W0 W') => place_spec (w := W') (hfP h).out (Nat.lt_of_lt_of_le Hbp.out h.size) (HP0.out.at h) (setL_srt cmpP_ok _) (by omega) (HH.out.at (below_step h HB0.out)) hpos)
          have hsp2 := Lib.hid (fun (W' : World) (h : Below W0.heap.size W0 W') => place_spec (w := W') (hfP h).out (Nat.lt_of_lt_of_le Hbp.out h.size) (HP0.out.at h) (setL_srt cmpP_ok _) (by omega) (HT.out.at (below_step h HB0.out)) hxp)
          have hq1 := lowC_le (c := cmpP) (prT c.head) (predsL l)
          have hq2 := lowC_le (c := cmpP) (prT x) (predsL l)
          obtain ⟨q1, hq1e⟩ : ∃ q : Nat, q = lowC cmpP (prT c.head) (predsL l) := ⟨_, rfl⟩
          obtain ⟨q2, hq2e⟩ : ∃ q : Nat, q = lowC cmpP (prT x) (predsL l) := ⟨_, rfl⟩
          rw [← hq1e] at hsp1 hq1 hjx
          rw [← hq2e] at hsp2 hq2 hjx
          obtain ⟨W2, hW2⟩ : ∃ W2, W2 = wr.alloc (.cells #[.bool xn, .slice ta x.length tc] 47) := ⟨_, rfl⟩
          have HbW2 := Lib.hid (show Below wr.heap.size wr W2 by rw [hW2]; exact Seq.way)
          have HR2 := Lib.hid (show RowA 47 W2 wr.heap.size [.bool xn, .slice ta x.length tc] by rw [hW2]; exact Row.new wr [_, _] _ rfl)
          obtain ⟨bl, hbl⟩ : ∃ b, b = wr.heap.size := ⟨_, rfl⟩
          have Hbl := Lib.hid hbl
          have hblt : bl < W2.heap.size := by rw [hbl]; exact HR2.out.row.lt
          have hbct : bc < W2.heap.size := Nat.lt_of_lt_of_le hcell.out.2 HbW2.out.size
          have Kq := fun {W' : World} (h : Below W2.heap.size W2 W') => Lib.hid (show W'.cell? ⟨bc, 0, none⟩ = some (.slice ha c.head.length hc) ∧ W'.cell? ⟨bl, 1, none⟩ = some (.slice ta x.length tc) ∧ W'.cell? ⟨bl, 0, none⟩ = some (.bool xn) from
            ⟨(h.cell (p := ⟨bc, 0, none⟩) hbct).trans ((HbW2.out.cell (p := ⟨bc, 0, none⟩) hcell.out.2).trans hcell.out.1), by rw [Hbl.out]; exact (HR2.out.at h).row.cell (j := 1) (by simp), by rw [Hbl.out]; exact (HR2.out.at h).row.cell (j := 0) (by simp)⟩)
          have HW2 := Lib.hid hW2
          have HbW := Lib.hid (hbz.out.trans (HbW2.out.mono hzz))
          have hz2 := HbW2.out.size
          have hz02 : W0.heap.size ≤ W2.heap.size := Nat.le_trans hzz hz2
          clear hx hxn x6 hT hQ hq1e hq2e hW2 hbl
          go_upto_region 10 with fail
          rw [← HW2.out, ← Hbl.out]
          go_region_held3 (fun w' => w'.cell? ⟨bc, 0, none⟩ = some (.slice ha c.head.length hc) ∧ w'.cell? ⟨bl, 1, none⟩ = some (.slice ta x.length tc) ∧ w'.cell? ⟨bl, 0, none⟩ = some (.bool xn))
            (first | exact hX5 | exact (Kq (Below.refl _ _)).out | exact (Kq Seq.way).out | go_keep)
            (first
              | (have hb1' := hb1; go_at_call 54; refine (hsp2.out _ (HbW.out.trans (Below.mono (below_step Seq.way hb1w) hz02))).mono ?_; rintro e y2 ⟨rfl, hb2⟩; have hb2w : Below W2.heap.size W2 y2 := below_step (below_step hb2 Seq.way) hb1w; have zy2 := hb2w.size)
              | (go_at_call 54; refine (hsp1.out _ (HbW.out.trans (Below.mono Seq.way hz02))).mono ?_; rintro e y1 ⟨rfl, hb1⟩; have hb1w : Below W2.heap.size W2 y1 := below_step hb1 Seq.way)
              | (refine step_app_lnk (wm := wr) (y := ⟨q1, q2, xn⟩) rfl _ _ 41 rfl Try.underlying41 infoLnk rfl hO5.out rfl (below_step (below_step Seq.way hb2w) HbW2.out) (by show q1 ≤ 1000000; omega) (by show q2 ≤ 1000000; omega) (by go_simp) (by go_simp) (by go_simp) (by omega) hzz ?_; intro ao cap w5 hown5 hk5; have hbA := (Kq (W' := y2.alloc (.cells #[.int .i64 q1, .int .i64 q2, .bool xn] 57)) Seq.way).out; have hbq : bc < (y2.alloc (.cells #[.int .i64 q1, .int .i64 q2, .bool xn] 57)).heap.size := (by simp; omega); have hblq : bl < (y2.alloc (.cells #[.int .i64 q1, .int .i64 q2, .bool xn] 57)).heap.size := (by simp; omega); have hX5 : w5.cell? ⟨bc, 0, none⟩ = some (.slice ha c.head.length hc) ∧ w5.cell? ⟨bl, 1, none⟩ = some (.slice ta x.length tc) ∧ w5.cell? ⟨bl, 0, none⟩ = some (.bool xn) := ⟨(World.cell?_of_block (hk5.keep bc hbq hne.out)).trans hbA.1, (hk5.cell 1 (Nat.le_of_eq Hbl.out.symm) hblq).trans hbA.2.1, (hk5.cell 0 (Nat.le_of_eq Hbl.out.symm) hblq).trans hbA.2.2⟩))
          have HX5 := Lib.hid hX5
          have H5 := Lib.hid hown5
          have K5 := Lib.hid (HbW.out.trans (Below.mono (show Below W2.heap.size W2 (y2.alloc (.cells #[.int .i64 q1, .int .i64 q2, .bool xn] 57)) from Seq.way) hz02) |>.trans hk5.below)
          have hnb := Lib.hid (show Value.ownBlock (.slice ao (Q.length + 1) cap) ≠ some bc from fun h => by
            rcases hk5.blk with h1 | h1
            · exact hne.out (h1 ▸ h)
            · rw [h1] at h; simp only [Option.some.injEq] at h; omega)
          have hz5 := Lib.hid (Nat.lt_of_lt_of_le hbq hk5.below.size)
          clear hb1 hb1w hb2 hb2w zy2 hown5 hk5 hbA hbq hblq hX5 hsp1 hsp2 Kq hb1'
          go_wp2_with fail
          go_roundw
          case rel => exact ⟨j + 1, hjl, by go_num, Lib.hid (by rw [hjx.out]; simpa using H5.out), hnb, Lib.hid ⟨HX5.out.1, hz5.out⟩, K5⟩
          case measure => simp [intOf]; omega
        · have hje := Lib.hid (show A ++ rowK (predsL l) c j = toK l (k + 1) by
            rw [show j = c.body.length by omega, hst.out])
          have hjI : ¬ (j : Int) < (c.body.length : Int) := by omega
          clear hjl
          go_wp2_with fail
          go_roundw
          case rel => exact ⟨k + 1, hlt, by go_num, Lib.hid (by rw [← hje.out]; exact hO5.out), hbz⟩
          case measure => simp [intOf]; omega
    · have hkn := Lib.hid (show k = l.length by omega)
      have hkI : ¬ (k : Int) < (l.length : Int) := by omega
      have hak := Lib.hid (show toK l l.length = allK l by unfold toK allK; rw [List.take_length])
      have hO6 := Lib.hid (show Own lnkE (fun _ => False) W0.heap.size 57 wr _ (allK l) from by have := hO.out; rw [hkn.out, hak.out] at this; exact this)
      have hall := Lib.hid (show (allK l).length ≤ 8000 by rw [← hak.out]; have := HTl.out l.length (Nat.le_refl _); omega)
      clear hlt hO
      go_wp2_with fail
      refine (sortK_spec hO6.out hzr (by have := hall.out; omega)).mono ?_
      rintro e w7 ⟨rfl, hb7, l', hp, hs, hO7⟩
      have H7 := Lib.hid hO7
      have B7 := Lib.hid (hbr.out.trans hb7)
      have Hps := Lib.hid (show l'.length = (allK l).length ∧ cptL l' = linksL l from ⟨hp.length_eq, cpt_set cmpK_ok hp hs⟩)
      clear hO7 hb7 hp hs
      go_wp2_with fail
      refine (compactK_spec H7.out B7.out.size (by have := hall.out; have := Hps.out.1; omega)).mono ?_
      rintro e w8 ⟨r, rfl, hb8, hO8⟩
      have H8 := Lib.hid hO8
      have B8 := Lib.hid (B7.out.trans hb8)
      clear hO8 hb8
      go_wp2_with fail
      go_ret
      refine ⟨_, rfl, below_step B8.out HB0.out, ?_⟩
      have h9 := H8.out
      rw [Hps.out.2] at h9
      exact h9.seq (by have := setL_le (c := cmpK) (allK l); have := hall.out; unfold linksL; omega) fun b _ h => h.elim False.elim fun h => Nat.le_trans HB0.out.size h
end
end Go.Proofs.Ytadbdmnngmlnhaa
