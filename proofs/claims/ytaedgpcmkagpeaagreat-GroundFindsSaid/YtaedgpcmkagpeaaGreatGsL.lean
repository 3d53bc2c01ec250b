/-
  Layer 16, the program: comparators, and that they only draw and make blocks: terms, numbers, rules.
-/
import Derived.Test.YtaedgpcmkagpeaaGreatGsC
import Derived.Test.YtaedgpcmkagpeaaGreatTmS
import Derived.Test.YtaedgpcmkagpeaaGreatGrw
import Derived.Test.YtaedgpcmkagpeaaGreatLast
import Derived.Test.YtaedgpcmkagpeaaGreatGsD
import Derived.Deep.DeepCutAuto
namespace Go.Proofs.YtaedgpcmkagpeaaGreat
open Go Go.RowKit

/-- It hands a known value back; old memory is as it was; it draws. -/
def RetG (v : Value) (w : World) (e : Ending) (w' : World) : Prop := e = .returned v ∧ Below w.heap.size w w' ∧ w.drawn ≤ w'.drawn
theorem RetG.ret {v : Value} {w : World} : ∀ {e : Ending} {w' : World}, RetG v w e w' → RetV v w e w' := fun h => ⟨h.1, h.2.1⟩
theorem drawn_drew (w : World) : w.drew.drawn = w.drawn + 1 := rfl
theorem drawn_alloc (w : World) (o : Obj) : (w.alloc o).drawn = w.drawn := rfl
theorem drawn_drewN (w : World) (n : Nat) : (w.drewN n).drawn = w.drawn + n := rfl

set_option maxHeartbeats 4000000 in
set_option maxRecDepth 100000 in
theorem cmpCG_spec {w : World} {x y : Cell} : Calls Tryz.prog 73 #[cellV x, cellV y] w (RetG (.int .i64 (cmpC x y)) w) := by
  have hor := Lib.hid (show cmpC x y = if cmpZ x.kind y.kind ≠ 0 then cmpZ x.kind y.kind else if cmpZ x.n y.n ≠ 0 then cmpZ x.n y.n else cmpS x.name y.name from rfl)
  have o1 := cmpZ_ok x.kind y.kind
  have o2 := cmpZ_ok x.n y.n
  have o3 := cmpS_ok x.name y.name
  have hb1 := fun (W : World) => cmp_spec (w := W) (a := x.kind) (b := y.kind)
  have hb2 := fun (W : World) => cmp_spec (w := W) (a := x.n) (b := y.n)
  have hb3 := fun (W : World) => cmpS_spec (w := W) (a := x.name) (b := y.name)
  obtain ⟨p, hp⟩ : ∃ p, p = cmpZ x.kind y.kind := ⟨_, rfl⟩
  obtain ⟨q, hq⟩ : ∃ q, q = cmpZ x.n y.n := ⟨_, rfl⟩
  obtain ⟨r, hr⟩ : ∃ r, r = cmpS x.name y.name := ⟨_, rfl⟩
  obtain ⟨z, hz⟩ : ∃ z, z = cmpC x y := ⟨_, rfl⟩
  rw [← hp] at hor o1 hb1
  rw [← hq] at hor o2 hb2
  rw [← hr] at hor o3 hb3
  rw [← hz] at hor ⊢
  have Hb1 := Lib.hid hb1
  have Hb2 := Lib.hid hb2
  have Hb3 := Lib.hid hb3
  clear hb1 hb2 hb3 hp hq hr hz
  unfold cellV
  go_enter Tryz.func73, Tryz.ntmps73
  go_wp2_with fail
  go_region_held3 (fun w' => w'.cell? ⟨w.heap.size, 0, none⟩ = some (.int .i64 x.kind) ∧ w'.cell? ⟨w.heap.size, 1, none⟩ = some (.string x.name) ∧ w'.cell? ⟨w.heap.size, 2, none⟩ = some (.int .i64 x.n) ∧
      w'.cell? ⟨w.heap.size + 1, 0, none⟩ = some (.int .i64 y.kind) ∧ w'.cell? ⟨w.heap.size + 1, 1, none⟩ = some (.string y.name) ∧ w'.cell? ⟨w.heap.size + 1, 2, none⟩ = some (.int .i64 y.n))
    (first | (go_simp; done) | go_keep)
    (first
      | (go_at_call_of 38 (Value.int IntKind.i64 x.kind); refine (Hb1.out _).mono ?_; rintro e w' ⟨rfl, rfl⟩)
      | (go_at_call_of 38 (Value.int IntKind.i64 x.n); refine (Hb2.out _).mono ?_; rintro e w' ⟨rfl, rfl⟩)
      | (go_at_call 75; refine (Hb3.out _).mono ?_; rintro e w' ⟨rfl, rfl⟩)
      | (go_at_call 74; refine (or_spec (seq3 o1 o2 o3 (by go_simp) (by go_simp) (by go_simp)) hor).mono ?_; rintro e w' ⟨rfl, rfl⟩))
  all_goals go_wp2_with fail
  all_goals go_ret
  all_goals exact ⟨rfl, Seq.way, by simp only [drawn_drew, drawn_alloc]; omega⟩

set_option maxHeartbeats 1600000 in
set_option maxRecDepth 100000 in
theorem compareFG_spec {S T : Nat → Prop} {w : World} {v u : Value} {a b : List Cell} (ha : Seq cellE S w v a) (hb : Seq cellE T w u b) :
    Calls Tryz.prog 72 #[v, u, .func (.func 73) #[] #[]] w (RetG (.int .i64 (cmpT a b)) w) := by
  obtain ⟨aa, ac, rfl, -, -, hal, -, ha5⟩ := ha
  obtain ⟨ba, bc, rfl, -, -, hbl, -, hb5⟩ := hb
  go_enter Tryz.func72, Tryz.ntmps72
  go_wp2_with fail
  go_loopw [13] (fun i wr => ∃ k : Nat, k ≤ a.length ∧ k ≤ b.length ∧ i = .int .i64 k ∧ Hid (cmpT a b = cmpT (a.drop k) (b.drop k)) ∧ Hid (w.drawn ≤ wr.drawn) ∧ Below w.heap.size w wr) (fun i _ => a.length - (intOf i).toNat)
  case atStart => exact ⟨0, Nat.zero_le _, Nat.zero_le _, rfl, Lib.hid rfl, Lib.hid (by (try simp only [drawn_drew, drawn_alloc, drawn_drewN]); omega), Seq.way⟩
  case round =>
    obtain ⟨k, hk, hk', rfl, hno, hdn, hbr⟩ := hrel
    have hzr := hbr.size
    by_cases hka : k < a.length
    · have hkl : (k : Int) < (a.length : Int) := by omega
      have hk0 : (0 : Int) ≤ (k : Int) := by omega
      obtain ⟨b1, o1, rfl, -, l1, c0, c1, c2, -⟩ := (ha5.below hbr fun _ _ h => h).cell hka
      by_cases hkb : k < b.length
      · obtain ⟨b2, o2, rfl, -, l2, d0, d1, d2, -⟩ := (hb5.below hbr fun _ _ h => h).cell hkb
        have hst := Lib.hid (cmpT_step hka hkb)
        clear ha5 hb5
        obtain ⟨x, hxe⟩ : ∃ x, x = a[k] := ⟨_, rfl⟩
        obtain ⟨y, hye⟩ : ∃ y, y = b[k] := ⟨_, rfl⟩
        rw [← hxe] at c0 c1 c2 hst
        rw [← hye] at d0 d1 d2 hst
        clear hxe hye
        have hkm : (k : Int) < (b.length : Int) := by omega
        go_wp2_with fail
        refine (cmpCG_spec (x := x) (y := y)).mono ?_
        rintro e w1 ⟨rfl, hb1, hd1⟩
        have hb1' : Below w.heap.size w w1 := below_step (below_step hb1 (Seq.way : Below wr.heap.size wr _)) hbr
        have hd1' := Lib.hid (show w.drawn ≤ w1.drawn by have := hdn.out; simp only [drawn_alloc] at hd1; omega)
        clear hd1
        by_cases he : cmpC x y = 0
        · have hx' := Lib.hid (show cmpT a b = cmpT (a.drop (k + 1)) (b.drop (k + 1)) by rw [hno.out, hst.out, if_neg (by simp [he])])
          have he' : (cmpC x y != 0) = false := by simp [he]
          rw [he]
          clear hst hno he he'
          go_wp2_with fail
          go_roundw
          case rel => exact ⟨k + 1, hka, hkb, by go_num, hx', hd1', hb1'⟩
          case measure => simp [intOf]; omega
        · have hz := Lib.hid (show cmpT a b = cmpC x y by rw [hno.out, hst.out, if_pos he])
          have he' : (cmpC x y != 0) = true := by simp [he]
          clear hst hno
          go_wp2_with fail
          go_ret
          exact ⟨ret_int hz.out.symm, hb1', hd1'.out⟩
      · have hz := Lib.hid (show cmpT a b = 1 by rw [hno.out, cmpT_end1 hka (by omega)])
        have hbk : (b.length : Int) ≤ (k : Int) := by omega
        go_wp2_with fail
        go_ret
        exact ⟨ret_int hz.out.symm, (below_step (Seq.way : Below wr.heap.size wr _) hbr), by have := hdn.out; simp only [drawn_alloc]; omega⟩
    · obtain rfl : k = a.length := by omega
      by_cases hl : a.length < b.length
      · have hz := Lib.hid (show cmpT a b = -1 by rw [hno.out, cmpT_end2 hl])
        go_wp2_with fail
        go_ret
        exact ⟨ret_int hz.out.symm, hbr, hdn.out⟩
      · have hz := Lib.hid (show cmpT a b = 0 by rw [hno.out, cmpT_end3 hl])
        go_wp2_with fail
        go_ret
        exact ⟨ret_int hz.out.symm, hbr, hdn.out⟩

theorem CompareG_spec {S T : Nat → Prop} {w : World} {v u : Value} {a b : List Cell} (ha : Seq cellE S w v a) (hb : Seq cellE T w u b) :
    Calls Tryz.prog 35 #[v, u] w (RetG (.int .i64 (cmpT a b)) w) := by
  have Ha := Lib.hid ha
  have Hb := Lib.hid hb
  obtain ⟨aa, ac, rfl, -⟩ := ha
  obtain ⟨ba, bc, rfl, -⟩ := hb
  go_enter Tryz.func35, Tryz.ntmps35
  go_wp2_with fail
  refine (compareFG_spec Ha.out Hb.out).mono ?_
  rintro e w1 ⟨rfl, hb1, hd1⟩
  have Hd1 := Lib.hid hd1
  clear hd1
  go_wp2_with fail
  go_ret
  exact ⟨rfl, hb1, Hd1.out⟩

/-! ### slices.Compare at numbers -/
theorem lexZ_at {l m : List Int} {k : Nat} (h : Hid (lexZ l m = lexZ (l.drop k) (m.drop k))) (h1 : k < l.length) (h2 : k < m.length) : lexZ l m = if cmpZ l[k] m[k] ≠ 0 then cmpZ l[k] m[k] else lexZ (l.drop (k + 1)) (m.drop (k + 1)) := by
  rw [h.out, List.drop_eq_getElem_cons h1, List.drop_eq_getElem_cons h2]; rfl
set_option maxHeartbeats 1600000 in
theorem compareZ_spec {S T : Nat → Prop} {w : World} {v u : Value} {l m : List Int} (hl : Seq intE S w v l) (hm : Seq intE T w u m) :
    Calls Tryz.prog 85 #[v, u] w (PureV (.int .i64 (lexZ l m)) w) := by
  obtain ⟨ao, cap, rfl, -, -, hll, -, h5⟩ := hl
  obtain ⟨bo, cap', rfl, -, -, hml, -, g5⟩ := hm
  go_enter Tryz.func85, Tryz.ntmps85
  go_wp2_with fail
  go_loopw [11] (fun i wr => ∃ k : Nat, k ≤ l.length ∧ k ≤ m.length ∧ i = .int .i64 k ∧ Hid (lexZ l m = lexZ (l.drop k) (m.drop k)) ∧ w = wr) (fun i _ => l.length - (intOf i).toNat)
  case atStart => exact ⟨0, Nat.zero_le _, Nat.zero_le _, rfl, Lib.hid rfl, rfl⟩
  case round =>
    obtain ⟨k, hk, hk', rfl, hno, rfl⟩ := hrel
    by_cases hka : k < l.length
    · have hkl : (k : Int) < (l.length : Int) := by omega
      have hk0 : (0 : Int) ≤ (k : Int) := by omega
      obtain ⟨b1, o1, rfl, -, l1, c0, -⟩ := h5.int hka
      by_cases hkb : k < m.length
      · obtain ⟨b2, o2, rfl, -, l2, d0, -⟩ := g5.int hkb
        have hst := Lib.hid (lexZ_at hno hka hkb)
        clear h5 g5
        obtain ⟨x, hxe⟩ : ∃ x, x = l[k] := ⟨_, rfl⟩
        obtain ⟨y, hye⟩ : ∃ y, y = m[k] := ⟨_, rfl⟩
        rw [← hxe] at c0 hst
        rw [← hye] at d0 hst
        clear hxe hye
        have hkm : (k : Int) < (m.length : Int) := by omega
        go_wp2_with fail
        refine (cmp_spec (a := x) (b := y)).mono ?_
        rintro e w1 ⟨rfl, rfl⟩
        by_cases he : cmpZ x y = 0
        · have hx' := Lib.hid (show lexZ l m = lexZ (l.drop (k + 1)) (m.drop (k + 1)) by rw [hst.out, if_neg (by simp [he])])
          have he' : (cmpZ x y != 0) = false := by simp [he]
          rw [he]
          clear hst hno he he'
          go_wp2_with fail
          go_roundw
          case rel => exact ⟨k + 1, hka, hkb, by go_num, hx', by first | rfl | trivial⟩
          case measure => simp [intOf]; omega
        · have hz := Lib.hid (show lexZ l m = cmpZ x y by rw [hst.out, if_pos he])
          have he' : (cmpZ x y != 0) = true := by simp [he]
          clear hst hno
          go_wp2_with fail
          go_ret
          exact ⟨ret_int hz.out.symm, rfl⟩
      · have hz := Lib.hid (show lexZ l m = 1 by rw [hno.out, List.drop_eq_getElem_cons hka, List.drop_eq_nil_of_le (show m.length ≤ k by omega)]; rfl)
        have hbk : (m.length : Int) ≤ (k : Int) := by omega
        clear h5 g5 hno
        go_wp2_with fail
        go_ret
        exact ⟨ret_int hz.out.symm, rfl⟩
    · obtain rfl : k = l.length := by omega
      by_cases hl : l.length < m.length
      · have hz := Lib.hid (show lexZ l m = -1 by rw [hno.out, List.drop_length, List.drop_eq_getElem_cons hl]; rfl)
        clear h5 g5 hno
        go_wp2_with fail
        go_ret
        exact ⟨ret_int hz.out.symm, rfl⟩
      · have hz := Lib.hid (show lexZ l m = 0 by rw [hno.out, List.drop_length, List.drop_eq_nil_of_le (show m.length ≤ l.length by omega)]; rfl)
        clear h5 g5 hno
        go_wp2_with fail
        go_ret
        exact ⟨ret_int hz.out.symm, rfl⟩
theorem lexZ_int (l m : List Int) : IntOK (lexZ l m) := by rcases lexZ_val l m with h | h | h <;> (rw [h]; exact ⟨by omega, by omega⟩)

/-! ### ground.order -/
set_option maxHeartbeats 6400000 in
set_option maxRecDepth 100000 in
theorem orderP_spec {S T : Nat → Prop} {w : World} {v u : Value} {a b : Rule} (ha : RulV S w v a) (hb : RulV T w u b) :
    Calls Tryz.prog 40 #[v, u] w (RetG (.int .i64 (cmpU a b)) w) := by
  obtain ⟨p, n, rfl, -, hp, hn⟩ := ha
  obtain ⟨p', n', rfl, -, hp', hn'⟩ := hb
  have Hp := Lib.hid hp
  have Hn := Lib.hid hn
  have Hp' := Lib.hid hp'
  have Hn' := Lib.hid hn'
  obtain ⟨pa, pc, rfl, -⟩ := hp
  obtain ⟨na, nc, rfl, -⟩ := hn
  obtain ⟨pa', pc', rfl, -⟩ := hp'
  obtain ⟨na', nc', rfl, -⟩ := hn'
  have hor := Lib.hid (show cmpU a b = if cmpZ a.head b.head ≠ 0 then cmpZ a.head b.head else if lexZ a.pos b.pos ≠ 0 then lexZ a.pos b.pos else lexZ a.neg b.neg from rfl)
  have o1 := cmpZ_ok a.head b.head
  have o2 := lexZ_int a.pos b.pos
  have o3 := lexZ_int a.neg b.neg
  have hb1 := Lib.hid (fun (W : World) => cmp_spec (w := W) (a := a.head) (b := b.head))
  have hb2 := Lib.hid (fun (W : World) (h : Below w.heap.size w W) => compareZ_spec (Hp.out.at h) (Hp'.out.at h))
  have hb3 := Lib.hid (fun (W : World) (h : Below w.heap.size w W) => compareZ_spec (Hn.out.at h) (Hn'.out.at h))
  obtain ⟨x, hx⟩ : ∃ x, x = cmpZ a.head b.head := ⟨_, rfl⟩
  obtain ⟨y, hy⟩ : ∃ y, y = lexZ a.pos b.pos := ⟨_, rfl⟩
  obtain ⟨z, hz⟩ : ∃ z, z = lexZ a.neg b.neg := ⟨_, rfl⟩
  obtain ⟨r, hr⟩ : ∃ r, r = cmpU a b := ⟨_, rfl⟩
  rw [← hx] at hor o1 hb1
  rw [← hy] at hor o2 hb2
  rw [← hz] at hor o3 hb3
  rw [← hr] at hor ⊢
  clear hx hy hz hr
  obtain ⟨W, hW⟩ : ∃ W, W = (w.alloc (.cells #[.int .i64 a.head, .slice pa a.pos.length pc, .slice na a.neg.length nc] 46)).alloc (.cells #[.int .i64 b.head, .slice pa' b.pos.length pc', .slice na' b.neg.length nc'] 46) := ⟨_, rfl⟩
  have HB := Lib.hid (show Below w.heap.size w W by rw [hW]; exact Seq.way)
  have HD := Lib.hid (show w.drawn ≤ W.drawn by rw [hW]; exact Nat.le_refl _)
  have HP := Lib.hid (show Row 46 W w.heap.size [.int .i64 a.head, .slice pa a.pos.length pc, .slice na a.neg.length nc] by rw [hW]; exact (Row.new w [_, _, _] _ rfl).alloc _)
  have HQ := Lib.hid (show Row 46 W (w.heap.size + 1) [.int .i64 b.head, .slice pa' b.pos.length pc', .slice na' b.neg.length nc'] by rw [hW]; exact Row.new _ [_, _, _] _ (by simp))
  have HW := Lib.hid hW
  clear hW
  have c0 := HP.out.cell (j := 0) (by simp)
  have c1 := HP.out.cell (j := 1) (by simp)
  have c2 := HP.out.cell (j := 2) (by simp)
  have e0 := HQ.out.cell (j := 0) (by simp)
  have e1 := HQ.out.cell (j := 1) (by simp)
  have e2 := HQ.out.cell (j := 2) (by simp)
  have l0 := HP.out.lt
  have l1 := HQ.out.lt
  simp only [List.getElem_cons_zero, List.getElem_cons_succ] at c0 c1 c2 e0 e1 e2
  go_enter Tryz.func40, Tryz.ntmps40
  go_upto_region 1 with fail
  rw [← HW.out]
  have Hkeep := fun {Wk : World} (hW : Below W.heap.size W Wk) => Lib.hid (show Wk.cell? ⟨w.heap.size, 0, none⟩ = some (.int .i64 a.head) ∧ Wk.cell? ⟨w.heap.size, 1, none⟩ = some (.slice pa a.pos.length pc) ∧ Wk.cell? ⟨w.heap.size, 2, none⟩ = some (.slice na a.neg.length nc) ∧ Wk.cell? ⟨w.heap.size + 1, 0, none⟩ = some (.int .i64 b.head) ∧ Wk.cell? ⟨w.heap.size + 1, 1, none⟩ = some (.slice pa' b.pos.length pc') ∧ Wk.cell? ⟨w.heap.size + 1, 2, none⟩ = some (.slice na' b.neg.length nc') from ⟨(hW.cell (p := ⟨w.heap.size, 0, none⟩) l0).trans c0, (hW.cell (p := ⟨w.heap.size, 1, none⟩) l0).trans c1, (hW.cell (p := ⟨w.heap.size, 2, none⟩) l0).trans c2, (hW.cell (p := ⟨w.heap.size + 1, 0, none⟩) l1).trans e0, (hW.cell (p := ⟨w.heap.size + 1, 1, none⟩) l1).trans e1, (hW.cell (p := ⟨w.heap.size + 1, 2, none⟩) l1).trans e2⟩)
  (try simp only [List.append_eq, List.cons_append, List.nil_append])
  refine wp_region_noPanic ?_
  refine wp_region_held_drew (S := fun w' => w'.cell? ⟨w.heap.size, 0, none⟩ = some (.int .i64 a.head) ∧ w'.cell? ⟨w.heap.size, 1, none⟩ = some (.slice pa a.pos.length pc) ∧ w'.cell? ⟨w.heap.size, 2, none⟩ = some (.slice na a.neg.length nc) ∧ w'.cell? ⟨w.heap.size + 1, 0, none⟩ = some (.int .i64 b.head) ∧ w'.cell? ⟨w.heap.size + 1, 1, none⟩ = some (.slice pa' b.pos.length pc') ∧ w'.cell? ⟨w.heap.size + 1, 2, none⟩ = some (.slice na' b.neg.length nc')) (by kernel_rfl) ?_ (fun hHeld => ?_)
  · exact (Hkeep (Below.drew (Below.refl _ _))).out
  refine wpAnyH_take1 (i := 0) (oi := _) (v := ?_) (by kernel_rfl) rfl (by kernel_rfl) (fun _ _ _ h => h) (Or.inl ⟨by rfl, ?_⟩) (by assumption) ?_
  rotate_left 1
  · intro w hSw; (try dsimp only at hSw); go_simp; (with_reducible rfl)
  (try simp only [Act.put, List.getElem_toArray, List.getElem_cons_zero, List.setIfInBounds_toArray, List.set_cons_zero, List.set_cons_succ])
  refine wpAnyH_take1 (i := 1) (oi := _) (v := ?_) (by kernel_rfl) rfl (by kernel_rfl) (fun _ _ _ h => h) (Or.inl ⟨by rfl, ?_⟩) (by assumption) ?_
  rotate_left 1
  · intro w hSw; (try dsimp only at hSw); go_simp; (with_reducible rfl)
  (try simp only [Act.put, List.getElem_toArray, List.getElem_cons_zero, List.getElem_cons_succ, List.setIfInBounds_toArray, List.set_cons_zero, List.set_cons_succ])
  refine wpAnyH_take1 (i := 2) (oi := _) (v := ?_) (by kernel_rfl) rfl (by kernel_rfl) (fun _ _ _ h => h) (Or.inl ⟨by rfl, ?_⟩) (by assumption) ?_
  rotate_left 1
  · intro w hSw; (try dsimp only at hSw); go_simp; (with_reducible rfl)
  (try simp only [Act.put, List.getElem_toArray, List.getElem_cons_zero, List.getElem_cons_succ, List.setIfInBounds_toArray, List.set_cons_zero, List.set_cons_succ])
  refine wpAnyH_take1 (i := 3) (oi := _) (v := ?_) (by kernel_rfl) rfl (by kernel_rfl) (fun _ _ _ h => h) (Or.inl ⟨by rfl, ?_⟩) (by assumption) ?_
  rotate_left 1
  · intro w hSw; (try dsimp only at hSw); go_simp; (with_reducible rfl)
  (try simp only [Act.put, List.getElem_toArray, List.getElem_cons_zero, List.getElem_cons_succ, List.setIfInBounds_toArray, List.set_cons_zero, List.set_cons_succ])
  refine wpAnyH_take1 (i := 5) (oi := _) (v := ?_) (by kernel_rfl) rfl (by kernel_rfl) (fun _ _ _ h => h) (Or.inl ⟨by rfl, ?_⟩) (by assumption) ?_
  rotate_left 1
  · intro w hSw; (try dsimp only at hSw); go_simp; (with_reducible rfl)
  (try simp only [Act.put, List.getElem_toArray, List.getElem_cons_zero, List.getElem_cons_succ, List.setIfInBounds_toArray, List.set_cons_zero, List.set_cons_succ])
  refine wpAnyH_take1 (i := 6) (oi := _) (v := ?_) (by kernel_rfl) rfl (by kernel_rfl) (fun _ _ _ h => h) (Or.inl ⟨by rfl, ?_⟩) (by assumption) ?_
  rotate_left 1
  · intro w hSw; (try dsimp only at hSw); go_simp; (with_reducible rfl)
  (try simp only [Act.put, List.getElem_toArray, List.getElem_cons_zero, List.getElem_cons_succ, List.setIfInBounds_toArray, List.set_cons_zero, List.set_cons_succ])
  refine wpAnyH_take1 (i := 7) (oi := _) (v := ?_) (by kernel_rfl) rfl (by kernel_rfl) (fun _ _ _ h => h) (Or.inl ⟨by rfl, ?_⟩) (by assumption) ?_
  rotate_left 1
  · intro w hSw; (try dsimp only at hSw); go_simp; (with_reducible rfl)
  (try simp only [Act.put, List.getElem_toArray, List.getElem_cons_zero, List.getElem_cons_succ, List.setIfInBounds_toArray, List.set_cons_zero, List.set_cons_succ])
  refine wpAnyH_take1 (i := 8) (oi := _) (v := ?_) (by kernel_rfl) rfl (by kernel_rfl) (fun _ _ _ h => h) (Or.inl ⟨by rfl, ?_⟩) (by assumption) ?_
  rotate_left 1
  · intro w hSw; (try dsimp only at hSw); go_simp; (with_reducible rfl)
  (try simp only [Act.put, List.getElem_toArray, List.getElem_cons_zero, List.getElem_cons_succ, List.setIfInBounds_toArray, List.set_cons_zero, List.set_cons_succ])
  refine wpAnyH_take1 (i := 10) (oi := _) (v := ?_) (by kernel_rfl) rfl (by kernel_rfl) (fun _ _ _ h => h) (Or.inl ⟨by rfl, ?_⟩) (by assumption) ?_
  rotate_left 1
  · intro w hSw; (try dsimp only at hSw); go_simp; (with_reducible rfl)
  (try simp only [Act.put, List.getElem_toArray, List.getElem_cons_zero, List.getElem_cons_succ, List.setIfInBounds_toArray, List.set_cons_zero, List.set_cons_succ])
  refine wpAnyH_take1 (i := 11) (oi := _) (v := ?_) (by kernel_rfl) rfl (by kernel_rfl) (fun _ _ _ h => h) (Or.inl ⟨by rfl, ?_⟩) (by assumption) ?_
  rotate_left 1
  · intro w hSw; (try dsimp only at hSw); go_simp; (with_reducible rfl)
  (try simp only [Act.put, List.getElem_toArray, List.getElem_cons_zero, List.getElem_cons_succ, List.setIfInBounds_toArray, List.set_cons_zero, List.set_cons_succ])
  refine wpAnyH_take1 (i := 12) (oi := _) (v := ?_) (by kernel_rfl) rfl (by kernel_rfl) (fun _ _ _ h => h) (Or.inl ⟨by rfl, ?_⟩) (by assumption) ?_
  rotate_left 1
  · intro w hSw; (try dsimp only at hSw); go_simp; (with_reducible rfl)
  (try simp only [Act.put, List.getElem_toArray, List.getElem_cons_zero, List.getElem_cons_succ, List.setIfInBounds_toArray, List.set_cons_zero, List.set_cons_succ])
  refine wpAnyH_take1 (i := 13) (oi := _) (v := ?_) (by kernel_rfl) rfl (by kernel_rfl) (fun _ _ _ h => h) (Or.inl ⟨by rfl, ?_⟩) (by assumption) ?_
  rotate_left 1
  · intro w hSw; (try dsimp only at hSw); go_simp; (with_reducible rfl)
  (try simp only [Act.put, List.getElem_toArray, List.getElem_cons_zero, List.getElem_cons_succ, List.setIfInBounds_toArray, List.set_cons_zero, List.set_cons_succ])
  refine wpAnyH_one (i := 4) (by kernel_rfl) rfl (by rfl) fun K hK => ?_
  go_simp
  refine (hb1.out _).mono ?_
  rintro e _ ⟨rfl, rfl⟩
  (try dsimp only)
  clear hHeld
  refine hK.out _ _ (Hkeep Seq.way).out fun hHeld => ?_
  clear hK K
  (try simp only [Act.put, List.getElem_toArray, List.getElem_cons_zero, List.getElem_cons_succ, List.setIfInBounds_toArray, List.set_cons_zero, List.set_cons_succ])
  refine wpAnyH_one (i := 9) (by kernel_rfl) rfl (by rfl) fun K hK => ?_
  go_simp
  refine (hb2.out _ (below_step (Seq.way : Below W.heap.size W _) HB.out)).mono ?_
  rintro e _ ⟨rfl, rfl⟩
  (try dsimp only)
  clear hHeld
  refine hK.out _ _ (Hkeep Seq.way).out fun hHeld => ?_
  clear hK K
  (try simp only [Act.put, List.getElem_toArray, List.getElem_cons_zero, List.getElem_cons_succ, List.setIfInBounds_toArray, List.set_cons_zero, List.set_cons_succ])
  refine wpAnyH_one (i := 14) (by kernel_rfl) rfl (by rfl) fun K hK => ?_
  go_simp
  refine (hb3.out _ (below_step (Seq.way : Below W.heap.size W _) HB.out)).mono ?_
  rintro e _ ⟨rfl, rfl⟩
  (try dsimp only)
  clear hHeld
  refine hK.out _ _ (Hkeep Seq.way).out fun hHeld => ?_
  clear hK K
  (try simp only [Act.put, List.getElem_toArray, List.getElem_cons_zero, List.getElem_cons_succ, List.setIfInBounds_toArray, List.set_cons_zero, List.set_cons_succ])
  refine wpAnyH_one (i := 15) (by kernel_rfl) rfl (by rfl) fun K hK => ?_
  go_simp
  (try dsimp only)
  clear hHeld
  refine hK.out _ _ (Hkeep Seq.way).out fun hHeld => ?_
  clear hK K
  (try simp only [Act.put, List.getElem_toArray, List.getElem_cons_zero, List.getElem_cons_succ, List.setIfInBounds_toArray, List.set_cons_zero, List.set_cons_succ])
  refine wpAnyH_one (i := 16) (by kernel_rfl) rfl (by rfl) fun K hK => ?_
  go_simp
  refine (or_spec (seq3 o1 o2 o3 (by go_simp) (by go_simp) (by go_simp)) hor).mono ?_
  rintro e _ ⟨rfl, rfl⟩
  (try dsimp only)
  clear hHeld
  refine hK.out _ _ (Hkeep Seq.way).out fun hHeld => ?_
  clear hK K
  (try simp only [Act.put, List.getElem_toArray, List.getElem_cons_zero, List.getElem_cons_succ, List.setIfInBounds_toArray, List.set_cons_zero, List.set_cons_succ])
  refine wpAnyH_take1 (i := 17) (oi := _) (v := ?_) (by kernel_rfl) rfl (by kernel_rfl) (fun _ _ _ h => h) (Or.inl ⟨by rfl, ?_⟩) (by assumption) ?_
  rotate_left 1
  · intro w hSw; (try dsimp only at hSw); go_simp; (with_reducible rfl)
  (try simp only [Act.put, List.getElem_toArray, List.getElem_cons_zero, List.getElem_cons_succ, List.setIfInBounds_toArray, List.set_cons_zero, List.set_cons_succ])
  refine wpAnyH_done (by kernel_rfl) ?_ _
  refine NoPanic.normal ?_
  go_wp2_with fail
  go_ret
  exact ⟨rfl, below_step (Seq.way : Below W.heap.size W _) HB.out, by have := HD.out; simp only [drawn_drew, drawn_alloc]; omega⟩

end Go.Proofs.YtaedgpcmkagpeaaGreat
