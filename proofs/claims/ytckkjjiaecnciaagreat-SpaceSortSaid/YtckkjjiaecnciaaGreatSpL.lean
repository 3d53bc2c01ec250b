/-
  Layer 16, the program: the comparator of terms, and that it only draws and makes blocks.
-/
import Derived.Test.YtckkjjiaecnciaaGreatTmT
import Derived.Test.YtckkjjiaecnciaaGreatBaseC
import Derived.Deep.DeepCutAuto
namespace Go.Proofs.YtckkjjiaecnciaaGreat
open Go Go.RowKit

/-- It hands a known value back; old memory is as it was; it draws. -/
def RetG (v : Value) (w : World) (e : Ending) (w' : World) : Prop := e = .returned v ∧ Below w.heap.size w w' ∧ w.drawn ≤ w'.drawn
theorem RetG.ret {v : Value} {w : World} : ∀ {e : Ending} {w' : World}, RetG v w e w' → RetV v w e w' := fun h => ⟨h.1, h.2.1⟩
theorem drawn_drew (w : World) : w.drew.drawn = w.drawn + 1 := rfl
theorem drawn_alloc (w : World) (o : Obj) : (w.alloc o).drawn = w.drawn := rfl
theorem drawn_drewN (w : World) (n : Nat) : (w.drewN n).drawn = w.drawn + n := rfl

set_option maxHeartbeats 4000000 in
set_option maxRecDepth 100000 in
theorem cmpCG_spec {w : World} {x y : Cell} : Calls Tryz.prog 68 #[cellV x, cellV y] w (RetG (.int .i64 (cmpC x y)) w) := by
  have hor := Lib.hid (show cmpC x y = if cmpZ x.kind y.kind ≠ 0 then cmpZ x.kind y.kind else if cmpZ x.n y.n ≠ 0 then cmpZ x.n y.n else cmpS x.name y.name from rfl)
  have o1 := cmpZ_ok x.kind y.kind
  have o2 := cmpZ_ok x.n y.n
  have o3 := cmpS_ok x.name y.name
  have hb1 := fun (W : World) => cmp_spec (w := W) (a := x.kind) (b := y.kind)
  have hb2 := fun (W : World) => cmp_spec (w := W) (a := x.n) (b := y.n)
  have hb3 := fun (W : World) => cmpS_spec (w := W) (a := x.name) (b := y.name)
  obtain ⟨p, hp⟩ : ∃ p, p = cmpZ x.kind y.kind := ⟨_, rfl⟩
  obtain ⟨q, hq⟩ : ∃ q, q = cmpZ x.n y.n := ⟨_, rfl⟩
  obtain ⟨r, hr⟩ : ∃ r, r = cmpS x.name y.name := ⟨_, rfl⟩
  obtain ⟨z, hz⟩ : ∃ z, z = cmpC x y := ⟨_, rfl⟩
  rw [← hp] at hor o1 hb1
  rw [← hq] at hor o2 hb2
  rw [← hr] at hor o3 hb3
  rw [← hz] at hor ⊢
  have Hb1 := Lib.hid hb1
  have Hb2 := Lib.hid hb2
  have Hb3 := Lib.hid hb3
  clear hb1 hb2 hb3 hp hq hr hz
  unfold cellV
  go_enter Tryz.func68, Tryz.ntmps68
  go_wp2_with fail
  go_region_held3 (fun w' => w'.cell? ⟨w.heap.size, 0, none⟩ = some (.int .i64 x.kind) ∧ w'.cell? ⟨w.heap.size, 1, none⟩ = some (.string x.name) ∧ w'.cell? ⟨w.heap.size, 2, none⟩ = some (.int .i64 x.n) ∧
      w'.cell? ⟨w.heap.size + 1, 0, none⟩ = some (.int .i64 y.kind) ∧ w'.cell? ⟨w.heap.size + 1, 1, none⟩ = some (.string y.name) ∧ w'.cell? ⟨w.heap.size + 1, 2, none⟩ = some (.int .i64 y.n))
    (first | (go_simp; done) | go_keep)
    (first
      | (go_at_call_of 70 (Value.int IntKind.i64 x.kind); refine (Hb1.out _).mono ?_; rintro e w' ⟨rfl, rfl⟩)
      | (go_at_call_of 70 (Value.int IntKind.i64 x.n); refine (Hb2.out _).mono ?_; rintro e w' ⟨rfl, rfl⟩)
      | (go_at_call 71; refine (Hb3.out _).mono ?_; rintro e w' ⟨rfl, rfl⟩)
      | (go_at_call 69; refine (or_spec (seq3 o1 o2 o3 (by go_simp) (by go_simp) (by go_simp)) hor).mono ?_; rintro e w' ⟨rfl, rfl⟩))
  all_goals go_wp2_with fail
  all_goals go_ret
  all_goals exact ⟨rfl, Seq.way, by simp only [drawn_drew, drawn_alloc]; omega⟩

set_option maxHeartbeats 1600000 in
set_option maxRecDepth 100000 in
theorem compareFG_spec {S T : Nat → Prop} {w : World} {v u : Value} {a b : List Cell} (ha : Seq cellE S w v a) (hb : Seq cellE T w u b) :
    Calls Tryz.prog 67 #[v, u, .func (.func 68) #[] #[]] w (RetG (.int .i64 (cmpT a b)) w) := by
  obtain ⟨aa, ac, rfl, -, -, hal, -, ha5⟩ := ha
  obtain ⟨ba, bc, rfl, -, -, hbl, -, hb5⟩ := hb
  go_enter Tryz.func67, Tryz.ntmps67
  go_wp2_with fail
  go_loopw [13] (fun i wr => ∃ k : Nat, k ≤ a.length ∧ k ≤ b.length ∧ i = .int .i64 k ∧ Hid (cmpT a b = cmpT (a.drop k) (b.drop k)) ∧ Hid (w.drawn ≤ wr.drawn) ∧ Below w.heap.size w wr) (fun i _ => a.length - (intOf i).toNat)
  case atStart => exact ⟨0, Nat.zero_le _, Nat.zero_le _, rfl, Lib.hid rfl, Lib.hid (by (try simp only [drawn_drew, drawn_alloc, drawn_drewN]); omega), Seq.way⟩
  case round =>
    obtain ⟨k, hk, hk', rfl, hno, hdn, hbr⟩ := hrel
    have hzr := hbr.size
    by_cases hka : k < a.length
    · have hkl : (k : Int) < (a.length : Int) := by omega
      have hk0 : (0 : Int) ≤ (k : Int) := by omega
      obtain ⟨b1, o1, rfl, -, l1, c0, c1, c2, -⟩ := (ha5.below hbr fun _ _ h => h).cell hka
      by_cases hkb : k < b.length
      · obtain ⟨b2, o2, rfl, -, l2, d0, d1, d2, -⟩ := (hb5.below hbr fun _ _ h => h).cell hkb
        have hst := Lib.hid (cmpT_step hka hkb)
        clear ha5 hb5
        obtain ⟨x, hxe⟩ : ∃ x, x = a[k] := ⟨_, rfl⟩
        obtain ⟨y, hye⟩ : ∃ y, y = b[k] := ⟨_, rfl⟩
        rw [← hxe] at c0 c1 c2 hst
        rw [← hye] at d0 d1 d2 hst
        clear hxe hye
        have hkm : (k : Int) < (b.length : Int) := by omega
        go_wp2_with fail
        refine (cmpCG_spec (x := x) (y := y)).mono ?_
        rintro e w1 ⟨rfl, hb1, hd1⟩
        have hb1' : Below w.heap.size w w1 := below_step (below_step hb1 (Seq.way : Below wr.heap.size wr _)) hbr
        have hd1' := Lib.hid (show w.drawn ≤ w1.drawn by have := hdn.out; simp only [drawn_alloc] at hd1; omega)
        clear hd1
        by_cases he : cmpC x y = 0
        · have hx' := Lib.hid (show cmpT a b = cmpT (a.drop (k + 1)) (b.drop (k + 1)) by rw [hno.out, hst.out, if_neg (by simp [he])])
          have he' : (cmpC x y != 0) = false := by simp [he]
          rw [he]
          clear hst hno he he'
          go_wp2_with fail
          go_roundw
          case rel => exact ⟨k + 1, hka, hkb, by go_num, hx', hd1', hb1'⟩
          case measure => simp [intOf]; omega
        · have hz := Lib.hid (show cmpT a b = cmpC x y by rw [hno.out, hst.out, if_pos he])
          have he' : (cmpC x y != 0) = true := by simp [he]
          clear hst hno
          go_wp2_with fail
          go_ret
          exact ⟨ret_int hz.out.symm, hb1', hd1'.out⟩
      · have hz := Lib.hid (show cmpT a b = 1 by rw [hno.out, cmpT_end1 hka (by omega)])
        have hbk : (b.length : Int) ≤ (k : Int) := by omega
        go_wp2_with fail
        go_ret
        exact ⟨ret_int hz.out.symm, (below_step (Seq.way : Below wr.heap.size wr _) hbr), by have := hdn.out; simp only [drawn_alloc]; omega⟩
    · obtain rfl : k = a.length := by omega
      by_cases hl : a.length < b.length
      · have hz := Lib.hid (show cmpT a b = -1 by rw [hno.out, cmpT_end2 hl])
        go_wp2_with fail
        go_ret
        exact ⟨ret_int hz.out.symm, hbr, hdn.out⟩
      · have hz := Lib.hid (show cmpT a b = 0 by rw [hno.out, cmpT_end3 hl])
        go_wp2_with fail
        go_ret
        exact ⟨ret_int hz.out.symm, hbr, hdn.out⟩

theorem CompareG_spec {S T : Nat → Prop} {w : World} {v u : Value} {a b : List Cell} (ha : Seq cellE S w v a) (hb : Seq cellE T w u b) :
    Calls Tryz.prog 42 #[v, u] w (RetG (.int .i64 (cmpT a b)) w) := by
  have Ha := Lib.hid ha
  have Hb := Lib.hid hb
  obtain ⟨aa, ac, rfl, -⟩ := ha
  obtain ⟨ba, bc, rfl, -⟩ := hb
  go_enter Tryz.func42, Tryz.ntmps42
  go_wp2_with fail
  refine (compareFG_spec Ha.out Hb.out).mono ?_
  rintro e w1 ⟨rfl, hb1, hd1⟩
  have Hd1 := Lib.hid hd1
  clear hd1
  go_wp2_with fail
  go_ret
  exact ⟨rfl, hb1, Hd1.out⟩

/-! ### slices.Compare at numbers -/
end Go.Proofs.YtckkjjiaecnciaaGreat
