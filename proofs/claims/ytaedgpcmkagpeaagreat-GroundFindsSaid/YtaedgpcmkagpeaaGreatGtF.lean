/-
  Layer 16, the law: its live questions (head).
-/
import Derived.Test.YtaedgpcmkagpeaaGreatGtE
import Derived.Test.YtaedgpcmkagpeaaGreatGsW
namespace Go.Proofs.YtaedgpcmkagpeaaGreat
open Go Go.RowKit

def xa : List Cell := nameT ⟨#[97]⟩
def xb : List Cell := nameT ⟨#[98]⟩
def xc : List Cell := nameT ⟨#[99]⟩
def xl : List Ins := [⟨xb, [xa], [xb]⟩, ⟨xa, [], []⟩]
def xg : Prog := ⟨[xa, xb], [⟨0, [], []⟩, ⟨1, [0], [1]⟩]⟩
theorem x_from : fromT xl = xg := by kernel_rfl
theorem x_right : rightG xg = true := by kernel_rfl
theorem x_rightN : rightG ⟨[], [⟨0, [], []⟩]⟩ = false := by kernel_rfl
theorem x_cut0 : cutG xg 0 = ⟨[xa], [⟨0, [], []⟩]⟩ := by kernel_rfl
theorem x_cut2 : cutG xg 2 = ⟨[], []⟩ := by kernel_rfl
theorem x_of : ofR xg 1 = [1] := by kernel_rfl
theorem x_pb : posT xg.atoms xb = 1 := by kernel_rfl
theorem x_pc : posT xg.atoms xc = -1 := by kernel_rfl
theorem same_true {S T : Nat → Prop} {w : World} {v u : Value} {a : List Cell} (ha : Seq cellE S w v a) (hb : Seq cellE T w u a) : Calls Tryz.prog 28 #[v, u] w (RetV (.bool true) w) :=
  (SameT_spec ha hb).mono fun _ _ h => ⟨by rw [h.1, decide_eq_true rfl], h.2.below _⟩
theorem one_seq {S : Nat → Prop} {w : World} {v : Value} {t : List Cell} {B : Nat} {T : Nat → Prop} (ht : Seq cellE S w v t) (hr : Row 33 w B [v]) (hS : ∀ b, S b → b < w.heap.size → T b) (hB : T B) : Seq (seqE cellE) T w (.slice (some ⟨B, 0, none⟩) 1 1) [t] := by
  refine Row.seq (vs := [v]) hr rfl (Nat.le_refl _) (by unfold maxLen; omega) (by simp) hB fun k x hk => ?_
  obtain rfl : k = 0 := by have := (List.getElem?_eq_some_iff.1 hk).1; simp at this; omega
  simp at hk; subst hk
  exact ⟨_, ⟨_, rfl, ht.mono hS fun _ _ _ => rfl⟩, fun j hj => by
    obtain rfl : j = 0 := by have : j < 1 := hj; omega
    rfl⟩

theorem field_atoms (w : World) (a b : Option Addr) (n c m d : Nat) : (Instr.field 26 (.agg #[.slice a n c, .slice b m d]) 0).run Tryz.prog w = .ok (.slice a n c) w := by kernel_rfl
theorem find_as {S T : Nat → Prop} {w : World} {v u : Value} {g : Prog} {t : List Cell} {z : Int} (h : posT g.atoms t = z) (hg : ProgV S w v g) (ht : Seq cellE T w u t) (hs : Srt cmpT g.atoms) (hn : g.atoms.length ≤ 1000000) : Calls Tryz.prog 19 #[v, u] w (RetV (.int .i64 z) w) := h ▸ FindP_spec hg ht hs hn
theorem right_as {S : Nat → Prop} {w : World} {v : Value} {g : Prog} {b : Bool} (h : rightG g = b) (hg : ProgV S w v g) : Calls Tryz.prog 17 #[v] w (RetV (.bool b) w) := h ▸ RightGP_spec hg
theorem prog_one {w : World} : ProgV (fun _ => True) (w.alloc (.cells #[.int .i64 0, .slice none 0 0, .slice none 0 0] 46)) (.agg #[.slice none 0 0, .slice (some ⟨w.heap.size, 0, none⟩) 1 1]) ⟨[], [⟨0, [], []⟩]⟩ := by
  refine ⟨_, _, rfl, Seq.nil _ _ _, Row.seq (vs := [.int .i64 0, .slice none 0 0, .slice none 0 0]) (Row.new w [_, _, _] _ rfl) rfl (Nat.le_refl _) (by unfold maxLen; omega) (by simp) True.intro fun k x hk => ?_⟩
  obtain rfl : k = 0 := by have := (List.getElem?_eq_some_iff.1 hk).1; simp at this; omega
  simp at hk; subst hk
  refine ⟨[_, _, _], ⟨_, _, rfl, ⟨by show _ ≤ (0 : Int); decide, by show (0 : Int) ≤ _; decide⟩, Seq.nil _ _ _, Seq.nil _ _ _⟩, fun j hj => ?_⟩
  have h3 : j < 3 := hj
  rcases (show j = 0 ∨ j = 1 ∨ j = 2 by omega) with rfl | rfl | rfl <;> rfl
set_option maxHeartbeats 12800000 in
set_option maxRecDepth 100000 in
theorem head_spec {w : World} : Calls Tryz.prog 11 #[] w (RetV (.bool true) w) := by
  go_enter Tryz.func11, Tryz.ntmps11
  go_wp2_with fail
  refine (nameL_spec (s := ⟨#[97]⟩) (by decide)).mono ?_
  rintro e w1 ⟨v1, rfl, hb1, hs1⟩
  have B1 := Lib.hid hb1
  have HA1 := Lib.hid (show Seq cellE _ w1 v1 xa from hs1)
  obtain ⟨p1, c1, rfl⟩ : ∃ p1 c1, v1 = .slice p1 xa.length c1 := hs1.shape
  clear hb1 hs1
  go_wp2_with fail
  refine (nameL_spec (s := ⟨#[98]⟩) (by decide)).mono ?_
  rintro e w2 ⟨v2, rfl, hb2, hs2⟩
  have B2 := Lib.hid (below_step hb2 B1.out)
  have HA2 := Lib.hid ((HA1.out.at hb2).mono (T := fun b => w.heap.size ≤ b) (fun _ h _ => h) fun _ _ _ => rfl)
  have hz1 := B1.out.size
  have HB2 := Lib.hid ((show Seq cellE _ w2 v2 xb from hs2).mono (T := fun b => w.heap.size ≤ b) (fun b h _ => by have h8 : w1.heap.size ≤ b := h; omega) fun _ _ _ => rfl)
  obtain ⟨p2, c2, rfl⟩ : ∃ p2 c2, v2 = .slice p2 xb.length c2 := hs2.shape
  have hz2 := B2.out.size
  obtain ⟨W3, hW3⟩ : ∃ W3, W3 = ((w2.alloc (.cells #[.slice p1 xa.length c1] 33)).alloc (.cells #[.slice p2 xb.length c2] 33)).alloc
      (.cells #[.slice p2 xb.length c2, .slice (some ⟨w2.heap.size, 0, none⟩) 1 1, .slice (some ⟨w2.heap.size + 1, 0, none⟩) 1 1, .slice p1 xa.length c1, .slice none 0 0, .slice none 0 0] 41) := ⟨_, rfl⟩
  have BA := Lib.hid (show Below w2.heap.size w2 W3 by rw [hW3]; exact Seq.way)
  have HA3 := Lib.hid (HA2.out.at BA.out)
  have HB3 := Lib.hid (HB2.out.at BA.out)
  have HP := Lib.hid (one_seq (T := fun b => w.heap.size ≤ b) HA3.out (show Row 33 W3 w2.heap.size _ by rw [hW3]; exact ((Row.new w2 [_] _ rfl).alloc _).alloc _) (fun _ h _ => h) hz2)
  have HN := Lib.hid (one_seq (T := fun b => w.heap.size ≤ b) HB3.out (show Row 33 W3 (w2.heap.size + 1) _ by rw [hW3]; exact (Row.new _ [_] _ (by simp)).alloc _) (fun _ h _ => h) (by omega))
  have HL := Lib.hid (show Seq instE (fun b => w.heap.size ≤ b) W3 (.slice (some ⟨w2.heap.size + 1 + 1, 0, none⟩) 2 2) xl by
    refine Row.seq (vs := [.slice p2 xb.length c2, .slice (some ⟨w2.heap.size, 0, none⟩) 1 1, .slice (some ⟨w2.heap.size + 1, 0, none⟩) 1 1, .slice p1 xa.length c1, .slice none 0 0, .slice none 0 0]) (by rw [hW3]; exact Row.new _ [_, _, _, _, _, _] _ (by simp)) rfl (Nat.le_refl _) (by unfold maxLen; omega) (by simp [xl]) (by omega) fun k x hk => ?_
    match k, hk with
    | 0, hk =>
      simp [xl] at hk; subst hk
      refine ⟨[_, _, _], ⟨_, _, _, rfl, HB3.out, HP.out, HN.out⟩, fun j hj => ?_⟩
      have h3 : j < 3 := hj
      rcases (show j = 0 ∨ j = 1 ∨ j = 2 by omega) with rfl | rfl | rfl <;> rfl
    | 1, hk =>
      simp [xl] at hk; subst hk
      refine ⟨[_, _, _], ⟨_, _, _, rfl, HA3.out, Seq.nil _ _ _, Seq.nil _ _ _⟩, fun j hj => ?_⟩
      have h3 : j < 3 := hj
      rcases (show j = 0 ∨ j = 1 ∨ j = 2 by omega) with rfl | rfl | rfl <;> rfl
    | k + 2, hk => simp [xl] at hk)
  have B3 := Lib.hid (below_step BA.out B2.out)
  have HW3 := Lib.hid hW3
  clear hb2 hs2 hW3 hz1 hz2 HP HN
  go_upto_region 4 with fail
  rw [← HW3.out]
  go_wp2_with fail
  refine (FromP_spec HL.out (by decide) (by decide)).mono ?_
  rintro e w4 ⟨v4, rfl, hb4, hg4⟩
  rw [x_from] at hg4
  have B4 := Lib.hid (below_step hb4 B3.out)
  have HA4 := Lib.hid (HA3.out.at hb4)
  have HB4 := Lib.hid (HB3.out.at hb4)
  obtain ⟨va, vr, rfl, hA, hR⟩ := hg4
  have HGA := Lib.hid hA
  have HGR := Lib.hid hR
  obtain ⟨aa, ac, rfl⟩ : ∃ aa ac, va = .slice aa 2 ac := hA.shape
  obtain ⟨ra, rc, rfl⟩ : ∃ ra rc, vr = .slice ra 2 rc := hR.shape
  clear hb4 hA hR
  obtain ⟨W4, hW4⟩ : ∃ W4, W4 = w4.alloc (.cells #[.slice aa 2 ac, .slice ra 2 rc] 26) := ⟨_, rfl⟩
  have BB4 := Lib.hid (show Below w4.heap.size w4 W4 by rw [hW4]; exact Seq.way)
  have HQ4 := Lib.hid (show Row 26 W4 w4.heap.size [.slice aa 2 ac, .slice ra 2 rc] by rw [hW4]; exact Row.new w4 [_, _] _ rfl)
  have HG4 := Lib.hid (show ProgV (Fr (fun b => w.heap.size ≤ b) W3) W4 (.agg #[.slice aa 2 ac, .slice ra 2 rc]) xg from ⟨_, _, rfl, HGA.out.at BB4.out, HGR.out.at BB4.out⟩)
  have BW4 := Lib.hid (below_step BB4.out B4.out)
  have HW4 := Lib.hid hW4
  have e0 := HQ4.out.cell (j := 0) (by simp)
  have e1 := HQ4.out.cell (j := 1) (by simp)
  simp only [List.getElem_cons_zero, List.getElem_cons_succ] at e0 e1
  clear hW4
  go_upto_region 5 with fail
  rw [← HW4.out]
  go_wp2_with fail
  refine (CutP_spec (a := 0) HG4.out (rightG_iff.1 x_right) (by decide) (by decide)).mono ?_
  rintro e w5 ⟨v5, rfl, hb5, hg5⟩
  rw [x_cut0] at hg5
  have B5 := Lib.hid (below_step hb5 BW4.out)
  have HQ5 := Lib.hid (rowTo HQ4.out hb5)
  obtain ⟨va, vr, rfl, hA, hR⟩ := hg5
  obtain ⟨ca, cc, rfl⟩ : ∃ aa ac, va = .slice aa 1 ac := hA.shape
  obtain ⟨qa, qc, rfl⟩ : ∃ ra rc, vr = .slice ra 1 rc := hR.shape
  have C5 := Lib.hid (show Below W4.heap.size W4 w5 from hb5)
  clear hb5 hA hR e0 e1
  obtain ⟨W5, hW5⟩ : ∃ W5, W5 = w5.alloc (.cells #[.slice ca 1 cc, .slice qa 1 qc] 26) := ⟨_, rfl⟩
  have BB5 := Lib.hid (show Below w5.heap.size w5 W5 by rw [hW5]; exact Seq.way)
  have HK5 := Lib.hid (show Row 26 W5 w5.heap.size [.slice ca 1 cc, .slice qa 1 qc] by rw [hW5]; exact Row.new w5 [_, _] _ rfl)
  have HQ5b := Lib.hid (rowTo HQ5.out BB5.out)
  have BW5 := Lib.hid (below_step BB5.out B5.out)
  have D5 := Lib.hid (below_step BB5.out C5.out)
  have HW5 := Lib.hid hW5
  have e0 := HQ5b.out.cell (j := 0) (by simp)
  have e1 := HQ5b.out.cell (j := 1) (by simp)
  simp only [List.getElem_cons_zero, List.getElem_cons_succ] at e0 e1
  clear hW5
  go_upto_region 6 with fail
  rw [← HW5.out]
  go_wp2_with fail
  refine (OfP_spec (a := 1) (HG4.out.at D5.out) (by decide)).mono ?_
  rintro e w6 ⟨v6, rfl, hb6, ho6⟩
  rw [x_of] at ho6
  have B6 := Lib.hid (below_step hb6 BW5.out)
  have D6 := Lib.hid (below_step hb6 D5.out)
  have HQ6 := Lib.hid (rowTo HQ5b.out hb6)
  have HK6 := Lib.hid (rowTo HK5.out hb6)
  have HO6 := Lib.hid ho6
  obtain ⟨oa, oc, rfl⟩ : ∃ aa ac, v6 = .slice aa 1 ac := ho6.shape
  have HG6 := Lib.hid (HG4.out.at D6.out)
  have HGA6 := Lib.hid ((HGA.out.at BB4.out).at D6.out)
  have HGR6 := Lib.hid ((HGR.out.at BB4.out).at D6.out)
  have HA6 := Lib.hid ((HA4.out.at BB4.out).at D6.out)
  have HB6 := Lib.hid ((HB4.out.at BB4.out).at D6.out)
  clear hb6 ho6 e0 e1
  have lQ := HQ6.out.lt
  have lK := HK6.out.lt
  have e0 := HQ6.out.cell (j := 0) (by simp)
  have e1 := HQ6.out.cell (j := 1) (by simp)
  have k0 := HK6.out.cell (j := 0) (by simp)
  have k1 := HK6.out.cell (j := 1) (by simp)
  simp only [List.getElem_cons_zero, List.getElem_cons_succ] at e0 e1 k0 k1
  obtain ⟨_, _, ee, -, -, -, -, x5⟩ := HGR6.out
  simp only [Value.slice.injEq] at ee
  obtain ⟨rfl, -, rfl⟩ := ee
  obtain ⟨rb, ro, pa0, pc0, na0, nc0, rfl, -, lrb, r0, -⟩ := x5.rule (k := 0) (by decide)
  obtain ⟨rb', ro', pa, pc, na, nc, ree, -, -, s0, s1, s2, -, hP, hN⟩ := x5.rule (k := 1) (by decide)
  simp only [Option.some.injEq, Addr.mk.injEq, and_true] at ree
  obtain ⟨rfl, rfl⟩ := ree
  simp only [Nat.zero_mul, Nat.add_zero, Nat.one_mul] at r0 s0 s1 s2
  replace r0 : w6.cell? ⟨rb, ro, none⟩ = some (.int .i64 0) := r0
  replace s0 : w6.cell? ⟨rb, ro + 3, none⟩ = some (.int .i64 1) := s0
  replace s1 : w6.cell? ⟨rb, ro + 3 + 1, none⟩ = some (.slice pa 1 pc) := s1
  replace s2 : w6.cell? ⟨rb, ro + 3 + 2, none⟩ = some (.slice na 1 nc) := s2
  obtain ⟨_, _, ee, -, -, -, -, x6⟩ := hP
  simp only [Value.slice.injEq] at ee
  obtain ⟨rfl, -, rfl⟩ := ee
  obtain ⟨pb, po, rfl, -, lpb, t0, -⟩ := x6.int (k := 0) (by decide)
  obtain ⟨_, _, ee, -, -, -, -, x7⟩ := hN
  simp only [Value.slice.injEq] at ee
  obtain ⟨rfl, -, rfl⟩ := ee
  obtain ⟨nb, no, rfl, -, lnb, t1, -⟩ := x7.int (k := 0) (by decide)
  obtain ⟨_, _, ee, -, -, -, -, x8⟩ := HO6.out
  simp only [Value.slice.injEq] at ee
  obtain ⟨rfl, -, rfl⟩ := ee
  obtain ⟨ob, oo, rfl, -, lob, t2, -⟩ := x8.int (k := 0) (by decide)
  simp only [Nat.add_zero] at t0 t1 t2
  replace t0 : w6.cell? ⟨pb, po, none⟩ = some (.int .i64 0) := t0
  replace t1 : w6.cell? ⟨nb, no, none⟩ = some (.int .i64 1) := t1
  replace t2 : w6.cell? ⟨ob, oo, none⟩ = some (.int .i64 1) := t2
  obtain ⟨_, _, ee, -, -, -, -, x9⟩ := HGA6.out
  simp only [Value.slice.injEq] at ee
  obtain ⟨rfl, -, rfl⟩ := ee
  obtain ⟨ab, ao, a0, m0, rfl, -, lab, u0, hX0⟩ := x9.seq (k := 0) (by decide)
  obtain ⟨ab', ao', a1, m1, ree, -, -, u1, hX1⟩ := x9.seq (k := 1) (by decide)
  simp only [Option.some.injEq, Addr.mk.injEq, and_true] at ree
  obtain ⟨rfl, rfl⟩ := ree
  simp only [Nat.add_zero] at u0
  replace u0 : w6.cell? ⟨ab, ao, none⟩ = some (.slice a0 xa.length m0) := u0
  replace u1 : w6.cell? ⟨ab, ao + 1, none⟩ = some (.slice a1 xb.length m1) := u1
  have HX0 := Lib.hid (show Seq cellE _ w6 (.slice a0 xa.length m0) xa from hX0)
  have HX1 := Lib.hid (show Seq cellE _ w6 (.slice a1 xb.length m1) xb from hX1)
  clear x5 x6 x7 x8 x9 hX0 hX1
  obtain ⟨W7, hW7⟩ : ∃ W7, W7 = w6.alloc (.cells #[.int .i64 1, .slice (some ⟨pb, po, none⟩) 1 pc, .slice (some ⟨nb, no, none⟩) 1 nc] 46) := ⟨_, rfl⟩
  have BB7 := Lib.hid (show Below w6.heap.size w6 W7 by rw [hW7]; exact Seq.way)
  have HR7 := Lib.hid (show Row 46 W7 w6.heap.size [.int .i64 1, .slice (some ⟨pb, po, none⟩) 1 pc, .slice (some ⟨nb, no, none⟩) 1 nc] by rw [hW7]; exact Row.new w6 [_, _, _] _ rfl)
  have B7 := Lib.hid (below_step BB7.out B6.out)
  have HW7 := Lib.hid hW7
  clear hW7
  go_upto_region 10 with fail
  rw [← HW7.out]
  have kc := fun {p : Addr} {v : Value} (hp : p.block < w6.heap.size) (h : w6.cell? p = some v) => (BB7.out.cell (p := p) hp).trans h
  replace e0 := kc (by exact lQ) e0
  replace e1 := kc (by exact lQ) e1
  replace u0 := kc (by exact lab) u0
  replace u1 := kc (by exact lab) u1
  replace r0 := kc (by exact lrb) r0
  replace t0 := kc (by exact lpb) t0
  replace t1 := kc (by exact lnb) t1
  replace t2 := kc (by exact lob) t2
  have f0 := HR7.out.cell (j := 0) (by simp)
  have f1 := HR7.out.cell (j := 1) (by simp)
  have f2 := HR7.out.cell (j := 2) (by simp)
  simp only [List.getElem_cons_zero, List.getElem_cons_succ] at f0 f1 f2
  have hz7 := BB7.out.size
  have lR := HR7.out.lt
  replace lQ := Nat.lt_of_lt_of_le lQ hz7
  replace lab := Nat.lt_of_lt_of_le lab hz7
  replace lrb := Nat.lt_of_lt_of_le lrb hz7
  replace lpb := Nat.lt_of_lt_of_le lpb hz7
  replace lnb := Nat.lt_of_lt_of_le lnb hz7
  replace lob := Nat.lt_of_lt_of_le lob hz7
  have HG7 := Lib.hid (HG6.out.at BB7.out)
  have HA7 := Lib.hid (HA6.out.at BB7.out)
  have HB7 := Lib.hid (HB6.out.at BB7.out)
  have HX07 := Lib.hid (HX0.out.at BB7.out)
  have HX17 := Lib.hid (HX1.out.at BB7.out)
  clear kc k0 k1 s0 s1 s2 lK
  have Hkeep := fun {Wk : World} (hW : Below W7.heap.size W7 Wk) => Lib.hid (show Wk.cell? ⟨w4.heap.size, 0, none⟩ = some (.slice (some ⟨ab, ao, none⟩) 2 ac) ∧ Wk.cell? ⟨w4.heap.size, 1, none⟩ = some (.slice (some ⟨rb, ro, none⟩) 2 rc) ∧ Wk.cell? ⟨ab, ao, none⟩ = some (.slice a0 xa.length m0) ∧ Wk.cell? ⟨ab, ao + 1, none⟩ = some (.slice a1 xb.length m1) ∧ Wk.cell? ⟨rb, ro, none⟩ = some (.int .i64 0) ∧ Wk.cell? ⟨w6.heap.size, 0, none⟩ = some (.int .i64 1) ∧ Wk.cell? ⟨w6.heap.size, 1, none⟩ = some (.slice (some ⟨pb, po, none⟩) 1 pc) ∧ Wk.cell? ⟨w6.heap.size, 2, none⟩ = some (.slice (some ⟨nb, no, none⟩) 1 nc) ∧ Wk.cell? ⟨pb, po, none⟩ = some (.int .i64 0) ∧ Wk.cell? ⟨nb, no, none⟩ = some (.int .i64 1) ∧ Wk.cell? ⟨ob, oo, none⟩ = some (.int .i64 1) from ⟨(hW.cell (p := ⟨w4.heap.size, 0, none⟩) lQ).trans e0, (hW.cell (p := ⟨w4.heap.size, 1, none⟩) lQ).trans e1, (hW.cell (p := ⟨ab, ao, none⟩) lab).trans u0, (hW.cell (p := ⟨ab, ao + 1, none⟩) lab).trans u1, (hW.cell (p := ⟨rb, ro, none⟩) lrb).trans r0, (hW.cell (p := ⟨w6.heap.size, 0, none⟩) lR).trans f0, (hW.cell (p := ⟨w6.heap.size, 1, none⟩) lR).trans f1, (hW.cell (p := ⟨w6.heap.size, 2, none⟩) lR).trans f2, (hW.cell (p := ⟨pb, po, none⟩) lpb).trans t0, (hW.cell (p := ⟨nb, no, none⟩) lnb).trans t1, (hW.cell (p := ⟨ob, oo, none⟩) lob).trans t2⟩)
  (try simp only [List.append_eq, List.cons_append, List.nil_append])
  refine wp_region_noPanic ?_
  refine wp_region_held_drew (S := fun w' => w'.cell? ⟨w4.heap.size, 0, none⟩ = some (.slice (some ⟨ab, ao, none⟩) 2 ac) ∧ w'.cell? ⟨w4.heap.size, 1, none⟩ = some (.slice (some ⟨rb, ro, none⟩) 2 rc) ∧ w'.cell? ⟨ab, ao, none⟩ = some (.slice a0 xa.length m0) ∧ w'.cell? ⟨ab, ao + 1, none⟩ = some (.slice a1 xb.length m1) ∧ w'.cell? ⟨rb, ro, none⟩ = some (.int .i64 0) ∧ w'.cell? ⟨w6.heap.size, 0, none⟩ = some (.int .i64 1) ∧ w'.cell? ⟨w6.heap.size, 1, none⟩ = some (.slice (some ⟨pb, po, none⟩) 1 pc) ∧ w'.cell? ⟨w6.heap.size, 2, none⟩ = some (.slice (some ⟨nb, no, none⟩) 1 nc) ∧ w'.cell? ⟨pb, po, none⟩ = some (.int .i64 0) ∧ w'.cell? ⟨nb, no, none⟩ = some (.int .i64 1) ∧ w'.cell? ⟨ob, oo, none⟩ = some (.int .i64 1)) (by kernel_rfl) ?_ (fun hHeld => ?_)
  · exact (Hkeep (Below.drew (Below.refl _ _))).out
  refine wpAnyH_take1 (i := 0) (oi := _) (v := ?_) (by kernel_rfl) rfl (by kernel_rfl) (fun _ _ _ h => h) (Or.inl ⟨by rfl, ?_⟩) (by assumption) ?_
  rotate_left 1
  · intro w hSw; (try dsimp only at hSw); go_simp; (with_reducible rfl)
  (try simp only [Act.put, List.getElem_toArray, List.getElem_cons_zero, List.setIfInBounds_toArray, List.set_cons_zero, List.set_cons_succ])
  refine wpAnyH_take1 (i := 1) (oi := _) (v := ?_) (by kernel_rfl) rfl (by kernel_rfl) (fun _ _ _ h => h) (Or.inl ⟨by rfl, ?_⟩) (by assumption) ?_
  rotate_left 1
  · intro w hSw; (try dsimp only at hSw); go_simp; (with_reducible rfl)
  (try simp only [Act.put, List.getElem_toArray, List.getElem_cons_zero, List.getElem_cons_succ, List.setIfInBounds_toArray, List.set_cons_zero, List.set_cons_succ])
  refine wpAnyH_take1 (i := 2) (oi := _) (v := ?_) (by kernel_rfl) rfl (by kernel_rfl) (fun _ _ _ h => h) (Or.inl ⟨by rfl, ?_⟩) (by assumption) ?_
  rotate_left 1
  · intro w hSw; (try dsimp only at hSw); go_simp; (with_reducible rfl)
  (try simp only [Act.put, List.getElem_toArray, List.getElem_cons_zero, List.getElem_cons_succ, List.setIfInBounds_toArray, List.set_cons_zero, List.set_cons_succ])
  refine wpAnyH_take1 (i := 3) (oi := _) (v := ?_) (by kernel_rfl) rfl (by kernel_rfl) (fun _ _ _ h => h) (Or.inl ⟨by rfl, ?_⟩) (by assumption) ?_
  rotate_left 1
  · intro w hSw; (try dsimp only at hSw); go_simp; (with_reducible rfl)
  (try simp only [Act.put, List.getElem_toArray, List.getElem_cons_zero, List.getElem_cons_succ, List.setIfInBounds_toArray, List.set_cons_zero, List.set_cons_succ])
  refine wpAnyH_take1 (i := 4) (oi := _) (v := ?_) (by kernel_rfl) rfl (by kernel_rfl) (fun _ _ _ h => h) (Or.inl ⟨by rfl, ?_⟩) (by assumption) ?_
  rotate_left 1
  · intro w hSw; (try dsimp only at hSw); go_simp; (with_reducible rfl)
  (try simp only [Act.put, List.getElem_toArray, List.getElem_cons_zero, List.getElem_cons_succ, List.setIfInBounds_toArray, List.set_cons_zero, List.set_cons_succ])
  refine wpAnyH_one (i := 5) (by kernel_rfl) rfl (by rfl) fun K hK => ?_
  go_simp
  refine ((same_true (HX07.out.at Seq.way) (HA7.out.at Seq.way))).mono ?_
  rintro e y1 ⟨rfl, hy1⟩
  have HY1 := below_step hy1 (Seq.way : Below W7.heap.size W7 _)
  have zy1 := HY1.size
  (try dsimp only)
  clear hHeld
  refine hK.out _ _ (Hkeep HY1).out fun hHeld => ?_
  clear hK K
  (try simp only [Act.put, List.getElem_toArray, List.getElem_cons_zero, List.getElem_cons_succ, List.setIfInBounds_toArray, List.set_cons_zero, List.set_cons_succ])
  refine wpAnyH_take1 (i := 6) (oi := _) (v := ?_) (by kernel_rfl) rfl (by kernel_rfl) (fun _ _ _ h => h) (Or.inl ⟨by rfl, ?_⟩) (by assumption) ?_
  rotate_left 1
  · intro w hSw; (try dsimp only at hSw); go_simp; (with_reducible rfl)
  (try simp only [Act.put, List.getElem_toArray, List.getElem_cons_zero, List.getElem_cons_succ, List.setIfInBounds_toArray, List.set_cons_zero, List.set_cons_succ])
  refine wpAnyH_take1 (i := 7) (oi := _) (v := ?_) (by kernel_rfl) rfl (by kernel_rfl) (fun _ _ _ h => h) (Or.inl ⟨by rfl, ?_⟩) (by assumption) ?_
  rotate_left 1
  · intro w hSw; (try dsimp only at hSw); go_simp; (with_reducible rfl)
  (try simp only [Act.put, List.getElem_toArray, List.getElem_cons_zero, List.getElem_cons_succ, List.setIfInBounds_toArray, List.set_cons_zero, List.set_cons_succ])
  refine wpAnyH_take1 (i := 8) (oi := _) (v := ?_) (by kernel_rfl) rfl (by kernel_rfl) (fun _ _ _ h => h) (Or.inl ⟨by rfl, ?_⟩) (by assumption) ?_
  rotate_left 1
  · intro w hSw; (try dsimp only at hSw); go_simp; (with_reducible rfl)
  (try simp only [Act.put, List.getElem_toArray, List.getElem_cons_zero, List.getElem_cons_succ, List.setIfInBounds_toArray, List.set_cons_zero, List.set_cons_succ])
  refine wpAnyH_take1 (i := 9) (oi := _) (v := ?_) (by kernel_rfl) rfl (by kernel_rfl) (fun _ _ _ h => h) (Or.inl ⟨by rfl, ?_⟩) (by assumption) ?_
  rotate_left 1
  · intro w hSw; (try dsimp only at hSw); go_simp; (with_reducible rfl)
  (try simp only [Act.put, List.getElem_toArray, List.getElem_cons_zero, List.getElem_cons_succ, List.setIfInBounds_toArray, List.set_cons_zero, List.set_cons_succ])
  refine wpAnyH_take1 (i := 10) (oi := _) (v := ?_) (by kernel_rfl) rfl (by kernel_rfl) (fun _ _ _ h => h) (Or.inl ⟨by rfl, ?_⟩) (by assumption) ?_
  rotate_left 1
  · intro w hSw; (try dsimp only at hSw); go_simp; (with_reducible rfl)
  (try simp only [Act.put, List.getElem_toArray, List.getElem_cons_zero, List.getElem_cons_succ, List.setIfInBounds_toArray, List.set_cons_zero, List.set_cons_succ])
  as_aux_lemma =>
    refine wpAnyH_take1 (i := 11) (oi := _) (v := ?_) (by kernel_rfl) rfl (by kernel_rfl) (fun _ _ _ h => h) (Or.inl ⟨by rfl, ?_⟩) (by assumption) ?_
    rotate_left 1
    · intro w hSw; (try dsimp only at hSw); go_simp; (with_reducible rfl)
    (try simp only [Act.put, List.getElem_toArray, List.getElem_cons_zero, List.getElem_cons_succ, List.setIfInBounds_toArray, List.set_cons_zero, List.set_cons_succ])
    refine wpAnyH_one (i := 12) (by kernel_rfl) rfl (by rfl) fun K hK => ?_
    go_simp
    refine ((same_true (HX17.out.at Seq.way) (HB7.out.at Seq.way))).mono ?_
    rintro e y2 ⟨rfl, hy2⟩
    have HY2 := below_step hy2 (Seq.way : Below W7.heap.size W7 _)
    have zy2 := HY2.size
    (try dsimp only)
    clear hHeld
    refine hK.out _ _ (Hkeep HY2).out fun hHeld => ?_
    clear hK K
    (try simp only [Act.put, List.getElem_toArray, List.getElem_cons_zero, List.getElem_cons_succ, List.setIfInBounds_toArray, List.set_cons_zero, List.set_cons_succ])
    refine wpAnyH_take1 (i := 13) (oi := _) (v := ?_) (by kernel_rfl) rfl (by kernel_rfl) (fun _ _ _ h => h) (Or.inl ⟨by rfl, ?_⟩) (by assumption) ?_
    rotate_left 1
    · intro w hSw; (try dsimp only at hSw); go_simp; (with_reducible rfl)
    (try simp only [Act.put, List.getElem_toArray, List.getElem_cons_zero, List.getElem_cons_succ, List.setIfInBounds_toArray, List.set_cons_zero, List.set_cons_succ])
    refine wpAnyH_take1 (i := 14) (oi := _) (v := ?_) (by kernel_rfl) rfl (by kernel_rfl) (fun _ _ _ h => h) (Or.inl ⟨by rfl, ?_⟩) (by assumption) ?_
    rotate_left 1
    · intro w hSw; (try dsimp only at hSw); go_simp; (with_reducible rfl)
    (try simp only [Act.put, List.getElem_toArray, List.getElem_cons_zero, List.getElem_cons_succ, List.setIfInBounds_toArray, List.set_cons_zero, List.set_cons_succ])
    refine wpAnyH_take1 (i := 15) (oi := _) (v := ?_) (by kernel_rfl) rfl (by kernel_rfl) (fun _ _ _ h => h) (Or.inl ⟨by rfl, ?_⟩) (by assumption) ?_
    rotate_left 1
    · intro w hSw; (try dsimp only at hSw); go_simp; (with_reducible rfl)
    (try simp only [Act.put, List.getElem_toArray, List.getElem_cons_zero, List.getElem_cons_succ, List.setIfInBounds_toArray, List.set_cons_zero, List.set_cons_succ])
    refine wpAnyH_take1 (i := 16) (oi := _) (v := ?_) (by kernel_rfl) rfl (by kernel_rfl) (fun _ _ _ h => h) (Or.inl ⟨by rfl, ?_⟩) (by assumption) ?_
    rotate_left 1
    · intro w hSw; (try dsimp only at hSw); go_simp; (with_reducible rfl)
    (try simp only [Act.put, List.getElem_toArray, List.getElem_cons_zero, List.getElem_cons_succ, List.setIfInBounds_toArray, List.set_cons_zero, List.set_cons_succ])
    refine wpAnyH_take1 (i := 17) (oi := _) (v := ?_) (by kernel_rfl) rfl (by kernel_rfl) (fun _ _ _ h => h) (Or.inl ⟨by rfl, ?_⟩) (by assumption) ?_
    rotate_left 1
    · intro w hSw; (try dsimp only at hSw); go_simp; (with_reducible rfl)
    (try simp only [Act.put, List.getElem_toArray, List.getElem_cons_zero, List.getElem_cons_succ, List.setIfInBounds_toArray, List.set_cons_zero, List.set_cons_succ])
    refine wpAnyH_take1 (i := 18) (oi := _) (v := ?_) (by kernel_rfl) rfl (by kernel_rfl) (fun _ _ _ h => h) (Or.inl ⟨by rfl, ?_⟩) (by assumption) ?_
    rotate_left 1
    · intro w hSw; (try dsimp only at hSw); go_simp; (with_reducible rfl)
    (try simp only [Act.put, List.getElem_toArray, List.getElem_cons_zero, List.getElem_cons_succ, List.setIfInBounds_toArray, List.set_cons_zero, List.set_cons_succ])
    refine wpAnyH_take1 (i := 19) (oi := _) (v := ?_) (by kernel_rfl) rfl (by kernel_rfl) (fun _ _ _ h => h) (Or.inl ⟨by rfl, ?_⟩) (by assumption) ?_
    rotate_left 1
    · intro w hSw; (try dsimp only at hSw); go_simp; (with_reducible rfl)
    (try simp only [Act.put, List.getElem_toArray, List.getElem_cons_zero, List.getElem_cons_succ, List.setIfInBounds_toArray, List.set_cons_zero, List.set_cons_succ])
    refine wpAnyH_take1 (i := 20) (oi := _) (v := ?_) (by kernel_rfl) rfl (by kernel_rfl) (fun _ _ _ h => h) (Or.inl ⟨by rfl, ?_⟩) (by assumption) ?_
    rotate_left 1
    · intro w hSw; (try dsimp only at hSw); go_simp; (with_reducible rfl)
    (try simp only [Act.put, List.getElem_toArray, List.getElem_cons_zero, List.getElem_cons_succ, List.setIfInBounds_toArray, List.set_cons_zero, List.set_cons_succ])
    refine wpAnyH_take1 (i := 21) (oi := _) (v := ?_) (by kernel_rfl) rfl (by kernel_rfl) (fun _ _ _ h => h) (Or.inl ⟨by rfl, ?_⟩) (by assumption) ?_
    rotate_left 1
    · intro w hSw; (try dsimp only at hSw); go_simp; (with_reducible rfl)
    (try simp only [Act.put, List.getElem_toArray, List.getElem_cons_zero, List.getElem_cons_succ, List.setIfInBounds_toArray, List.set_cons_zero, List.set_cons_succ])
    refine wpAnyH_take1 (i := 22) (oi := _) (v := ?_) (by kernel_rfl) rfl (by kernel_rfl) (fun _ _ _ h => h) (Or.inl ⟨by rfl, ?_⟩) (by assumption) ?_
    rotate_left 1
    · intro w hSw; (try dsimp only at hSw); go_simp; (with_reducible rfl)
    (try simp only [Act.put, List.getElem_toArray, List.getElem_cons_zero, List.getElem_cons_succ, List.setIfInBounds_toArray, List.set_cons_zero, List.set_cons_succ])
    as_aux_lemma =>
      refine wpAnyH_take1 (i := 23) (oi := _) (v := ?_) (by kernel_rfl) rfl (by kernel_rfl) (fun _ _ _ h => h) (Or.inl ⟨by rfl, ?_⟩) (by assumption) ?_
      rotate_left 1
      · intro w hSw; (try dsimp only at hSw); go_simp; (with_reducible rfl)
      (try simp only [Act.put, List.getElem_toArray, List.getElem_cons_zero, List.getElem_cons_succ, List.setIfInBounds_toArray, List.set_cons_zero, List.set_cons_succ])
      refine wpAnyH_take1 (i := 24) (oi := _) (v := ?_) (by kernel_rfl) rfl (by kernel_rfl) (fun _ _ _ h => h) (Or.inl ⟨by rfl, ?_⟩) (by assumption) ?_
      rotate_left 1
      · intro w hSw; (try dsimp only at hSw); go_simp; (with_reducible rfl)
      (try simp only [Act.put, List.getElem_toArray, List.getElem_cons_zero, List.getElem_cons_succ, List.setIfInBounds_toArray, List.set_cons_zero, List.set_cons_succ])
      refine wpAnyH_take1 (i := 25) (oi := _) (v := ?_) (by kernel_rfl) rfl (by kernel_rfl) (fun _ _ _ h => h) (Or.inl ⟨by rfl, ?_⟩) (by assumption) ?_
      rotate_left 1
      · intro w hSw; (try dsimp only at hSw); go_simp; (with_reducible rfl)
      (try simp only [Act.put, List.getElem_toArray, List.getElem_cons_zero, List.getElem_cons_succ, List.setIfInBounds_toArray, List.set_cons_zero, List.set_cons_succ])
      refine wpAnyH_take1 (i := 26) (oi := _) (v := ?_) (by kernel_rfl) rfl (by kernel_rfl) (fun _ _ _ h => h) (Or.inl ⟨by rfl, ?_⟩) (by assumption) ?_
      rotate_left 1
      · intro w hSw; (try dsimp only at hSw); go_simp; (with_reducible rfl)
      (try simp only [Act.put, List.getElem_toArray, List.getElem_cons_zero, List.getElem_cons_succ, List.setIfInBounds_toArray, List.set_cons_zero, List.set_cons_succ])
      refine wpAnyH_take1 (i := 27) (oi := _) (v := ?_) (by kernel_rfl) rfl (by kernel_rfl) (fun _ _ _ h => h) (Or.inl ⟨by rfl, ?_⟩) (by assumption) ?_
      rotate_left 1
      · intro w hSw; (try dsimp only at hSw); go_simp; (with_reducible rfl)
      (try simp only [Act.put, List.getElem_toArray, List.getElem_cons_zero, List.getElem_cons_succ, List.setIfInBounds_toArray, List.set_cons_zero, List.set_cons_succ])
      refine wpAnyH_take1 (i := 28) (oi := _) (v := ?_) (by kernel_rfl) rfl (by kernel_rfl) (fun _ _ _ h => h) (Or.inl ⟨by rfl, ?_⟩) (by assumption) ?_
      rotate_left 1
      · intro w hSw; (try dsimp only at hSw); go_simp; (with_reducible rfl)
      (try simp only [Act.put, List.getElem_toArray, List.getElem_cons_zero, List.getElem_cons_succ, List.setIfInBounds_toArray, List.set_cons_zero, List.set_cons_succ])
      refine wpAnyH_take1 (i := 29) (oi := _) (v := ?_) (by kernel_rfl) rfl (by kernel_rfl) (fun _ _ _ h => h) (Or.inl ⟨by rfl, ?_⟩) (by assumption) ?_
      rotate_left 1
      · intro w hSw; (try dsimp only at hSw); go_simp; (with_reducible rfl)
      (try simp only [Act.put, List.getElem_toArray, List.getElem_cons_zero, List.getElem_cons_succ, List.setIfInBounds_toArray, List.set_cons_zero, List.set_cons_succ])
      refine wpAnyH_take1 (i := 30) (oi := _) (v := ?_) (by kernel_rfl) rfl (by kernel_rfl) (fun _ _ _ h => h) (Or.inl ⟨by rfl, ?_⟩) (by assumption) ?_
      rotate_left 1
      · intro w hSw; (try dsimp only at hSw); go_simp; (with_reducible rfl)
      (try simp only [Act.put, List.getElem_toArray, List.getElem_cons_zero, List.getElem_cons_succ, List.setIfInBounds_toArray, List.set_cons_zero, List.set_cons_succ])
      refine wpAnyH_take1 (i := 31) (oi := _) (v := ?_) (by kernel_rfl) rfl (by kernel_rfl) (fun _ _ _ h => h) (Or.inl ⟨by rfl, ?_⟩) (by assumption) ?_
      rotate_left 1
      · intro w hSw; (try dsimp only at hSw); go_simp; (with_reducible rfl)
      (try simp only [Act.put, List.getElem_toArray, List.getElem_cons_zero, List.getElem_cons_succ, List.setIfInBounds_toArray, List.set_cons_zero, List.set_cons_succ])
      refine wpAnyH_take1 (i := 32) (oi := _) (v := ?_) (by kernel_rfl) rfl (by kernel_rfl) (fun _ _ _ h => h) (Or.inl ⟨by rfl, ?_⟩) (by assumption) ?_
      rotate_left 1
      · intro w hSw; (try dsimp only at hSw); go_simp; (with_reducible rfl)
      (try simp only [Act.put, List.getElem_toArray, List.getElem_cons_zero, List.getElem_cons_succ, List.setIfInBounds_toArray, List.set_cons_zero, List.set_cons_succ])
      refine wpAnyH_take1 (i := 33) (oi := _) (v := ?_) (by kernel_rfl) rfl (by kernel_rfl) (fun _ _ _ h => h) (Or.inl ⟨by rfl, ?_⟩) (by assumption) ?_
      rotate_left 1
      · intro w hSw; (try dsimp only at hSw); go_simp; (with_reducible rfl)
      (try simp only [Act.put, List.getElem_toArray, List.getElem_cons_zero, List.getElem_cons_succ, List.setIfInBounds_toArray, List.set_cons_zero, List.set_cons_succ])
      refine wpAnyH_take1 (i := 34) (oi := _) (v := ?_) (by kernel_rfl) rfl (by kernel_rfl) (fun _ _ _ h => h) (Or.inl ⟨by rfl, ?_⟩) (by assumption) ?_
      rotate_left 1
      · intro w hSw; (try dsimp only at hSw); go_simp; (with_reducible rfl)
      (try simp only [Act.put, List.getElem_toArray, List.getElem_cons_zero, List.getElem_cons_succ, List.setIfInBounds_toArray, List.set_cons_zero, List.set_cons_succ])
      as_aux_lemma =>
        refine wpAnyH_take1 (i := 35) (oi := _) (v := ?_) (by kernel_rfl) rfl (by kernel_rfl) (fun _ _ _ h => h) (Or.inl ⟨by rfl, ?_⟩) (by assumption) ?_
        rotate_left 1
        · intro w hSw; (try dsimp only at hSw); go_simp; (with_reducible rfl)
        (try simp only [Act.put, List.getElem_toArray, List.getElem_cons_zero, List.getElem_cons_succ, List.setIfInBounds_toArray, List.set_cons_zero, List.set_cons_succ])
        refine wpAnyH_take1 (i := 36) (oi := _) (v := ?_) (by kernel_rfl) rfl (by kernel_rfl) (fun _ _ _ h => h) (Or.inl ⟨by rfl, ?_⟩) (by assumption) ?_
        rotate_left 1
        · intro w hSw; (try dsimp only at hSw); go_simp; (with_reducible rfl)
        (try simp only [Act.put, List.getElem_toArray, List.getElem_cons_zero, List.getElem_cons_succ, List.setIfInBounds_toArray, List.set_cons_zero, List.set_cons_succ])
        refine wpAnyH_take1 (i := 37) (oi := _) (v := ?_) (by kernel_rfl) rfl (by kernel_rfl) (fun _ _ _ h => h) (Or.inl ⟨by rfl, ?_⟩) (by assumption) ?_
        rotate_left 1
        · intro w hSw; (try dsimp only at hSw); go_simp; (with_reducible rfl)
        (try simp only [Act.put, List.getElem_toArray, List.getElem_cons_zero, List.getElem_cons_succ, List.setIfInBounds_toArray, List.set_cons_zero, List.set_cons_succ])
        refine wpAnyH_take1 (i := 38) (oi := _) (v := ?_) (by kernel_rfl) rfl (by kernel_rfl) (fun _ _ _ h => h) (Or.inl ⟨by rfl, ?_⟩) (by assumption) ?_
        rotate_left 1
        · intro w hSw; (try dsimp only at hSw); go_simp; (with_reducible rfl)
        (try simp only [Act.put, List.getElem_toArray, List.getElem_cons_zero, List.getElem_cons_succ, List.setIfInBounds_toArray, List.set_cons_zero, List.set_cons_succ])
        refine wpAnyH_take1 (i := 39) (oi := _) (v := ?_) (by kernel_rfl) rfl (by kernel_rfl) (fun _ _ _ h => h) (Or.inl ⟨by rfl, ?_⟩) (by assumption) ?_
        rotate_left 1
        · intro w hSw; (try dsimp only at hSw); go_simp; (with_reducible rfl)
        (try simp only [Act.put, List.getElem_toArray, List.getElem_cons_zero, List.getElem_cons_succ, List.setIfInBounds_toArray, List.set_cons_zero, List.set_cons_succ])
        refine wpAnyH_take1 (i := 40) (oi := _) (v := ?_) (by kernel_rfl) rfl (by kernel_rfl) (fun _ _ _ h => h) (Or.inl ⟨by rfl, ?_⟩) (by assumption) ?_
        rotate_left 1
        · intro w hSw; (try dsimp only at hSw); go_simp; (with_reducible rfl)
        (try simp only [Act.put, List.getElem_toArray, List.getElem_cons_zero, List.getElem_cons_succ, List.setIfInBounds_toArray, List.set_cons_zero, List.set_cons_succ])
        refine wpAnyH_take1 (i := 41) (oi := _) (v := ?_) (by kernel_rfl) rfl (by kernel_rfl) (fun _ _ _ h => h) (Or.inl ⟨by rfl, ?_⟩) (by assumption) ?_
        rotate_left 1
        · intro w hSw; (try dsimp only at hSw); go_simp; (with_reducible rfl)
        (try simp only [Act.put, List.getElem_toArray, List.getElem_cons_zero, List.getElem_cons_succ, List.setIfInBounds_toArray, List.set_cons_zero, List.set_cons_succ])
        refine wpAnyH_take1 (i := 42) (oi := _) (v := ?_) (by kernel_rfl) rfl (by kernel_rfl) (fun _ _ _ h => h) (Or.inl ⟨by rfl, ?_⟩) (by assumption) ?_
        rotate_left 1
        · intro w hSw; (try dsimp only at hSw); go_simp; (with_reducible rfl)
        (try simp only [Act.put, List.getElem_toArray, List.getElem_cons_zero, List.getElem_cons_succ, List.setIfInBounds_toArray, List.set_cons_zero, List.set_cons_succ])
        refine wpAnyH_take1 (i := 43) (oi := _) (v := ?_) (by kernel_rfl) rfl (by kernel_rfl) (fun _ _ _ h => h) (Or.inl ⟨by rfl, ?_⟩) (by assumption) ?_
        rotate_left 1
        · intro w hSw; (try dsimp only at hSw); go_simp; (with_reducible rfl)
        (try simp only [Act.put, List.getElem_toArray, List.getElem_cons_zero, List.getElem_cons_succ, List.setIfInBounds_toArray, List.set_cons_zero, List.set_cons_succ])
        refine wpAnyH_take1 (i := 44) (oi := _) (v := ?_) (by kernel_rfl) rfl (by kernel_rfl) (fun _ _ _ h => h) (Or.inl ⟨by rfl, ?_⟩) (by assumption) ?_
        rotate_left 1
        · intro w hSw; (try dsimp only at hSw); go_simp; (with_reducible rfl)
        (try simp only [Act.put, List.getElem_toArray, List.getElem_cons_zero, List.getElem_cons_succ, List.setIfInBounds_toArray, List.set_cons_zero, List.set_cons_succ])
        refine wpAnyH_take1 (i := 45) (oi := _) (v := ?_) (by kernel_rfl) rfl (by kernel_rfl) (fun _ _ _ h => h) (Or.inl ⟨by rfl, ?_⟩) (by assumption) ?_
        rotate_left 1
        · intro w hSw; (try dsimp only at hSw); go_simp; (with_reducible rfl)
        (try simp only [Act.put, List.getElem_toArray, List.getElem_cons_zero, List.getElem_cons_succ, List.setIfInBounds_toArray, List.set_cons_zero, List.set_cons_succ])
        refine wpAnyH_take1 (i := 46) (oi := _) (v := ?_) (by kernel_rfl) rfl (by kernel_rfl) (fun _ _ _ h => h) (Or.inl ⟨by rfl, ?_⟩) (by assumption) ?_
        rotate_left 1
        · intro w hSw; (try dsimp only at hSw); go_simp; (with_reducible rfl)
        (try simp only [Act.put, List.getElem_toArray, List.getElem_cons_zero, List.getElem_cons_succ, List.setIfInBounds_toArray, List.set_cons_zero, List.set_cons_succ])
        as_aux_lemma =>
          refine wpAnyH_take1 (i := 47) (oi := _) (v := ?_) (by kernel_rfl) rfl (by kernel_rfl) (fun _ _ _ h => h) (Or.inl ⟨by rfl, ?_⟩) (by assumption) ?_
          rotate_left 1
          · intro w hSw; (try dsimp only at hSw); go_simp; (with_reducible rfl)
          (try simp only [Act.put, List.getElem_toArray, List.getElem_cons_zero, List.getElem_cons_succ, List.setIfInBounds_toArray, List.set_cons_zero, List.set_cons_succ])
          refine wpAnyH_take1 (i := 48) (oi := _) (v := ?_) (by kernel_rfl) rfl (by kernel_rfl) (fun _ _ _ h => h) (Or.inl ⟨by rfl, ?_⟩) (by assumption) ?_
          rotate_left 1
          · intro w hSw; (try dsimp only at hSw); go_simp; (with_reducible rfl)
          (try simp only [Act.put, List.getElem_toArray, List.getElem_cons_zero, List.getElem_cons_succ, List.setIfInBounds_toArray, List.set_cons_zero, List.set_cons_succ])
          refine wpAnyH_take1 (i := 49) (oi := _) (v := ?_) (by kernel_rfl) rfl (by kernel_rfl) (fun _ _ _ h => h) (Or.inl ⟨by rfl, ?_⟩) (by assumption) ?_
          rotate_left 1
          · intro w hSw; (try dsimp only at hSw); go_simp; (with_reducible rfl)
          (try simp only [Act.put, List.getElem_toArray, List.getElem_cons_zero, List.getElem_cons_succ, List.setIfInBounds_toArray, List.set_cons_zero, List.set_cons_succ])
          refine wpAnyH_take1 (i := 50) (oi := _) (v := ?_) (by kernel_rfl) rfl (by kernel_rfl) (fun _ _ _ h => h) (Or.inl ⟨by rfl, ?_⟩) (by assumption) ?_
          rotate_left 1
          · intro w hSw; (try dsimp only at hSw); go_simp; (with_reducible rfl)
          (try simp only [Act.put, List.getElem_toArray, List.getElem_cons_zero, List.getElem_cons_succ, List.setIfInBounds_toArray, List.set_cons_zero, List.set_cons_succ])
          refine wpAnyH_take1 (i := 51) (oi := _) (v := ?_) (by kernel_rfl) rfl (by kernel_rfl) (fun _ _ _ h => h) (Or.inl ⟨by rfl, ?_⟩) (by assumption) ?_
          rotate_left 1
          · intro w hSw; (try dsimp only at hSw); go_simp; (with_reducible rfl)
          (try simp only [Act.put, List.getElem_toArray, List.getElem_cons_zero, List.getElem_cons_succ, List.setIfInBounds_toArray, List.set_cons_zero, List.set_cons_succ])
          refine wpAnyH_take1 (i := 52) (oi := _) (v := ?_) (by kernel_rfl) rfl (by kernel_rfl) (fun _ _ _ h => h) (Or.inl ⟨by rfl, ?_⟩) (by assumption) ?_
          rotate_left 1
          · intro w hSw; (try dsimp only at hSw); go_simp; (with_reducible rfl)
          (try simp only [Act.put, List.getElem_toArray, List.getElem_cons_zero, List.getElem_cons_succ, List.setIfInBounds_toArray, List.set_cons_zero, List.set_cons_succ])
          refine wpAnyH_take1 (i := 53) (oi := _) (v := ?_) (by kernel_rfl) rfl (by kernel_rfl) (fun _ _ _ h => h) (Or.inl ⟨by rfl, ?_⟩) (by assumption) ?_
          rotate_left 1
          · intro w hSw; (try dsimp only at hSw); go_simp; (with_reducible rfl)
          (try simp only [Act.put, List.getElem_toArray, List.getElem_cons_zero, List.getElem_cons_succ, List.setIfInBounds_toArray, List.set_cons_zero, List.set_cons_succ])
          refine wpAnyH_take1 (i := 54) (oi := _) (v := ?_) (by kernel_rfl) rfl (by kernel_rfl) (fun _ _ _ h => h) (Or.inl ⟨by rfl, ?_⟩) (by assumption) ?_
          rotate_left 1
          · intro w hSw; (try dsimp only at hSw); go_simp; (with_reducible rfl)
          (try simp only [Act.put, List.getElem_toArray, List.getElem_cons_zero, List.getElem_cons_succ, List.setIfInBounds_toArray, List.set_cons_zero, List.set_cons_succ])
          refine wpAnyH_take1 (i := 55) (oi := _) (v := ?_) (by kernel_rfl) rfl (by kernel_rfl) (fun _ _ _ h => h) (Or.inl ⟨by rfl, ?_⟩) (by assumption) ?_
          rotate_left 1
          · intro w hSw; (try dsimp only at hSw); go_simp; (with_reducible rfl)
          (try simp only [Act.put, List.getElem_toArray, List.getElem_cons_zero, List.getElem_cons_succ, List.setIfInBounds_toArray, List.set_cons_zero, List.set_cons_succ])
          refine wpAnyH_take1 (i := 56) (oi := _) (v := ?_) (by kernel_rfl) rfl (by kernel_rfl) (fun _ _ _ h => h) (Or.inl ⟨by rfl, ?_⟩) (by assumption) ?_
          rotate_left 1
          · intro w hSw; (try dsimp only at hSw); go_simp; (with_reducible rfl)
          (try simp only [Act.put, List.getElem_toArray, List.getElem_cons_zero, List.getElem_cons_succ, List.setIfInBounds_toArray, List.set_cons_zero, List.set_cons_succ])
          refine wpAnyH_take1 (i := 57) (oi := _) (v := ?_) (by kernel_rfl) rfl (by kernel_rfl) (fun _ _ _ h => h) (Or.inl ⟨by rfl, ?_⟩) (by assumption) ?_
          rotate_left 1
          · intro w hSw; (try dsimp only at hSw); go_simp; (with_reducible rfl)
          (try simp only [Act.put, List.getElem_toArray, List.getElem_cons_zero, List.getElem_cons_succ, List.setIfInBounds_toArray, List.set_cons_zero, List.set_cons_succ])
          refine wpAnyH_take1 (i := 58) (oi := _) (v := ?_) (by kernel_rfl) rfl (by kernel_rfl) (fun _ _ _ h => h) (Or.inl ⟨by rfl, ?_⟩) (by assumption) ?_
          rotate_left 1
          · intro w hSw; (try dsimp only at hSw); go_simp; (with_reducible rfl)
          (try simp only [Act.put, List.getElem_toArray, List.getElem_cons_zero, List.getElem_cons_succ, List.setIfInBounds_toArray, List.set_cons_zero, List.set_cons_succ])
          as_aux_lemma =>
            refine wpAnyH_take1 (i := 59) (oi := _) (v := ?_) (by kernel_rfl) rfl (by kernel_rfl) (fun _ _ _ h => h) (Or.inl ⟨by rfl, ?_⟩) (by assumption) ?_
            rotate_left 1
            · intro w hSw; (try dsimp only at hSw); go_simp; (with_reducible rfl)
            (try simp only [Act.put, List.getElem_toArray, List.getElem_cons_zero, List.getElem_cons_succ, List.setIfInBounds_toArray, List.set_cons_zero, List.set_cons_succ])
            refine wpAnyH_take1 (i := 60) (oi := _) (v := ?_) (by kernel_rfl) rfl (by kernel_rfl) (fun _ _ _ h => h) (Or.inl ⟨by rfl, ?_⟩) (by assumption) ?_
            rotate_left 1
            · intro w hSw; (try dsimp only at hSw); go_simp; (with_reducible rfl)
            (try simp only [Act.put, List.getElem_toArray, List.getElem_cons_zero, List.getElem_cons_succ, List.setIfInBounds_toArray, List.set_cons_zero, List.set_cons_succ])
            refine wpAnyH_take1 (i := 61) (oi := _) (v := ?_) (by kernel_rfl) rfl (by kernel_rfl) (fun _ _ _ h => h) (Or.inl ⟨by rfl, ?_⟩) (by assumption) ?_
            rotate_left 1
            · intro w hSw; (try dsimp only at hSw); go_simp; (with_reducible rfl)
            (try simp only [Act.put, List.getElem_toArray, List.getElem_cons_zero, List.getElem_cons_succ, List.setIfInBounds_toArray, List.set_cons_zero, List.set_cons_succ])
            refine wpAnyH_one (i := 62) (by kernel_rfl) rfl (by rfl) fun K hK => ?_
            go_simp
            refine ((find_as x_pb (HG7.out.at Seq.way) (HB7.out.at Seq.way) (rightG_iff.1 x_right).srt (by decide))).mono ?_
            rintro e y3 ⟨rfl, hy3⟩
            have HY3 := below_step hy3 (Seq.way : Below W7.heap.size W7 _)
            have zy3 := HY3.size
            (try dsimp only)
            clear hHeld
            refine hK.out _ _ (Hkeep HY3).out fun hHeld => ?_
            clear hK K
            (try simp only [Act.put, List.getElem_toArray, List.getElem_cons_zero, List.getElem_cons_succ, List.setIfInBounds_toArray, List.set_cons_zero, List.set_cons_succ])
            refine wpAnyH_take1 (i := 63) (oi := _) (v := ?_) (by kernel_rfl) rfl (by kernel_rfl) (fun _ _ _ h => h) (Or.inl ⟨by rfl, ?_⟩) (by assumption) ?_
            rotate_left 1
            · intro w hSw; (try dsimp only at hSw); go_simp; (with_reducible rfl)
            (try simp only [Act.put, List.getElem_toArray, List.getElem_cons_zero, List.getElem_cons_succ, List.setIfInBounds_toArray, List.set_cons_zero, List.set_cons_succ])
            refine wpAnyH_take1 (i := 64) (oi := _) (v := ?_) (by kernel_rfl) rfl (by kernel_rfl) (fun _ _ _ h => h) (Or.inl ⟨by rfl, ?_⟩) (by assumption) ?_
            rotate_left 1
            · intro w hSw; (try dsimp only at hSw); go_simp; (with_reducible rfl)
            (try simp only [Act.put, List.getElem_toArray, List.getElem_cons_zero, List.getElem_cons_succ, List.setIfInBounds_toArray, List.set_cons_zero, List.set_cons_succ])
            refine wpAnyH_take1 (i := 65) (oi := _) (v := ?_) (by kernel_rfl) rfl (by kernel_rfl) (fun _ _ _ h => h) (Or.inl ⟨by rfl, ?_⟩) (by assumption) ?_
            rotate_left 1
            · intro w hSw; (try dsimp only at hSw); go_simp; (with_reducible rfl)
            (try simp only [Act.put, List.getElem_toArray, List.getElem_cons_zero, List.getElem_cons_succ, List.setIfInBounds_toArray, List.set_cons_zero, List.set_cons_succ])
            refine wpAnyH_take1 (i := 66) (oi := _) (v := ?_) (by kernel_rfl) rfl (by kernel_rfl) (fun _ _ _ h => h) (Or.inl ⟨by rfl, ?_⟩) (by assumption) ?_
            rotate_left 1
            · intro w hSw; (try dsimp only at hSw); go_simp; (with_reducible rfl)
            (try simp only [Act.put, List.getElem_toArray, List.getElem_cons_zero, List.getElem_cons_succ, List.setIfInBounds_toArray, List.set_cons_zero, List.set_cons_succ])
            refine wpAnyH_one (i := 67) (by kernel_rfl) rfl (by rfl) fun K hK => ?_
            go_simp
            refine ((nameL_spec (s := ⟨#[99]⟩) (by decide))).mono ?_
            rintro e y4 ⟨_, rfl, hy4, hn4⟩
            have HY4 := below_step hy4 (Seq.way : Below W7.heap.size W7 _)
            have zy4 := HY4.size
            (try dsimp only)
            clear hHeld
            refine hK.out _ _ (Hkeep HY4).out fun hHeld => ?_
            clear hK K
            (try simp only [Act.put, List.getElem_toArray, List.getElem_cons_zero, List.getElem_cons_succ, List.setIfInBounds_toArray, List.set_cons_zero, List.set_cons_succ])
            have HN4 := Lib.hid (show Seq cellE _ y4 _ xc from hn4)
            obtain ⟨n1, n2, rfl⟩ := hn4.shape
            clear hn4
            refine wpAnyH_one (i := 68) (by kernel_rfl) rfl (by rfl) fun K hK => ?_
            go_simp
            refine ((find_as x_pc (HG7.out.at Seq.way) (HN4.out.at Seq.way) (rightG_iff.1 x_right).srt (by decide))).mono ?_
            rintro e y5 ⟨rfl, hy5⟩
            have HY5 := below_step hy5 (Seq.way : Below W7.heap.size W7 _)
            have zy5 := HY5.size
            (try dsimp only)
            clear hHeld
            refine hK.out _ _ (Hkeep HY5).out fun hHeld => ?_
            clear hK K
            (try simp only [Act.put, List.getElem_toArray, List.getElem_cons_zero, List.getElem_cons_succ, List.setIfInBounds_toArray, List.set_cons_zero, List.set_cons_succ])
            refine wpAnyH_take1 (i := 69) (oi := _) (v := ?_) (by kernel_rfl) rfl (by kernel_rfl) (fun _ _ _ h => h) (Or.inl ⟨by rfl, ?_⟩) (by assumption) ?_
            rotate_left 1
            · intro w hSw; (try dsimp only at hSw); go_simp; (with_reducible rfl)
            (try simp only [Act.put, List.getElem_toArray, List.getElem_cons_zero, List.getElem_cons_succ, List.setIfInBounds_toArray, List.set_cons_zero, List.set_cons_succ])
            refine wpAnyH_take1 (i := 70) (oi := _) (v := ?_) (by kernel_rfl) rfl (by kernel_rfl) (fun _ _ _ h => h) (Or.inl ⟨by rfl, ?_⟩) (by assumption) ?_
            rotate_left 1
            · intro w hSw; (try dsimp only at hSw); go_simp; (with_reducible rfl)
            (try simp only [Act.put, List.getElem_toArray, List.getElem_cons_zero, List.getElem_cons_succ, List.setIfInBounds_toArray, List.set_cons_zero, List.set_cons_succ])
            as_aux_lemma =>
              refine wpAnyH_take1 (i := 71) (oi := _) (v := ?_) (by kernel_rfl) rfl (by kernel_rfl) (fun _ _ _ h => h) (Or.inl ⟨by rfl, ?_⟩) (by assumption) ?_
              rotate_left 1
              · intro w hSw; (try dsimp only at hSw); go_simp; (with_reducible rfl)
              (try simp only [Act.put, List.getElem_toArray, List.getElem_cons_zero, List.getElem_cons_succ, List.setIfInBounds_toArray, List.set_cons_zero, List.set_cons_succ])
              refine wpAnyH_take1 (i := 72) (oi := _) (v := ?_) (by kernel_rfl) rfl (by kernel_rfl) (fun _ _ _ h => h) (Or.inl ⟨by rfl, ?_⟩) (by assumption) ?_
              rotate_left 1
              · intro w hSw; (try dsimp only at hSw); go_simp; (with_reducible rfl)
              (try simp only [Act.put, List.getElem_toArray, List.getElem_cons_zero, List.getElem_cons_succ, List.setIfInBounds_toArray, List.set_cons_zero, List.set_cons_succ])
              refine wpAnyH_one (i := 73) (by kernel_rfl) rfl (by rfl) fun K hK => ?_
              go_simp
              refine ((right_as x_right (HG7.out.at Seq.way))).mono ?_
              rintro e y6 ⟨rfl, hy6⟩
              have HY6 := below_step hy6 (Seq.way : Below W7.heap.size W7 _)
              have zy6 := HY6.size
              (try dsimp only)
              clear hHeld
              refine hK.out _ _ (Hkeep HY6).out fun hHeld => ?_
              clear hK K
              (try simp only [Act.put, List.getElem_toArray, List.getElem_cons_zero, List.getElem_cons_succ, List.setIfInBounds_toArray, List.set_cons_zero, List.set_cons_succ])
              refine wpAnyH_take1 (i := 74) (oi := _) (v := ?_) (by kernel_rfl) rfl (by kernel_rfl) (fun _ _ _ h => h) (Or.inl ⟨by rfl, ?_⟩) (by assumption) ?_
              rotate_left 1
              · intro w hSw; (try dsimp only at hSw); go_simp; (with_reducible rfl)
              (try simp only [Act.put, List.getElem_toArray, List.getElem_cons_zero, List.getElem_cons_succ, List.setIfInBounds_toArray, List.set_cons_zero, List.set_cons_succ])
              refine wpAnyH_take1 (i := 75) (oi := _) (v := ?_) (by kernel_rfl) rfl (by kernel_rfl) (fun _ _ _ h => h) (Or.inl ⟨by rfl, ?_⟩) (by assumption) ?_
              rotate_left 1
              · intro w hSw; (try dsimp only at hSw); go_simp; (with_reducible rfl)
              (try simp only [Act.put, List.getElem_toArray, List.getElem_cons_zero, List.getElem_cons_succ, List.setIfInBounds_toArray, List.set_cons_zero, List.set_cons_succ])
              refine wpAnyH_take1 (i := 76) (oi := _) (v := ?_) (by kernel_rfl) rfl (by kernel_rfl) (fun _ _ _ h => h) (Or.inl ⟨by rfl, ?_⟩) (by assumption) ?_
              rotate_left 1
              · intro w hSw; (try dsimp only at hSw); go_simp; (with_reducible rfl)
              (try simp only [Act.put, List.getElem_toArray, List.getElem_cons_zero, List.getElem_cons_succ, List.setIfInBounds_toArray, List.set_cons_zero, List.set_cons_succ])
              refine wpAnyH_one (i := 77) (by kernel_rfl) rfl (by rfl) fun K hK => ?_
              go_simp
              (try dsimp only)
              clear hHeld
              refine hK.out _ _ (Hkeep Seq.way).out fun hHeld => ?_
              clear hK K
              (try simp only [Act.put, List.getElem_toArray, List.getElem_cons_zero, List.getElem_cons_succ, List.setIfInBounds_toArray, List.set_cons_zero, List.set_cons_succ])
              refine wpAnyH_take1 (i := 78) (oi := _) (v := ?_) (by kernel_rfl) rfl (by kernel_rfl) (fun _ _ _ h => h) (Or.inl ⟨by rfl, ?_⟩) (by assumption) ?_
              rotate_left 1
              · intro w hSw; (try dsimp only at hSw); go_simp; (with_reducible rfl)
              (try simp only [Act.put, List.getElem_toArray, List.getElem_cons_zero, List.getElem_cons_succ, List.setIfInBounds_toArray, List.set_cons_zero, List.set_cons_succ])
              refine wpAnyH_one (i := 79) (by kernel_rfl) rfl (by rfl) fun K hK => ?_
              go_simp
              refine ((right_as x_rightN (prog_one (w := y6)))).mono ?_
              rintro e y7 ⟨rfl, hy7⟩
              have HY7 := below_step hy7 (Seq.way : Below W7.heap.size W7 _)
              have zy7 := HY7.size
              (try dsimp only)
              clear hHeld
              refine hK.out _ _ (Hkeep HY7).out fun hHeld => ?_
              clear hK K
              (try simp only [Act.put, List.getElem_toArray, List.getElem_cons_zero, List.getElem_cons_succ, List.setIfInBounds_toArray, List.set_cons_zero, List.set_cons_succ])
              refine wpAnyH_take1 (i := 80) (oi := _) (v := ?_) (by kernel_rfl) rfl (by kernel_rfl) (fun _ _ _ h => h) (Or.inl ⟨by rfl, ?_⟩) (by assumption) ?_
              rotate_left 1
              · intro w hSw; (try dsimp only at hSw); go_simp; (with_reducible rfl)
              (try simp only [Act.put, List.getElem_toArray, List.getElem_cons_zero, List.getElem_cons_succ, List.setIfInBounds_toArray, List.set_cons_zero, List.set_cons_succ])
              refine wpAnyH_take1 (i := 81) (oi := _) (v := ?_) (by kernel_rfl) rfl (by kernel_rfl) (fun _ _ _ h => h) (Or.inl ⟨by rfl, ?_⟩) (by assumption) ?_
              rotate_left 1
              · intro w hSw; (try dsimp only at hSw); go_simp; (with_reducible rfl)
              (try simp only [Act.put, List.getElem_toArray, List.getElem_cons_zero, List.getElem_cons_succ, List.setIfInBounds_toArray, List.set_cons_zero, List.set_cons_succ])
              refine wpAnyH_take1 (i := 82) (oi := _) (v := ?_) (by kernel_rfl) rfl (by kernel_rfl) (fun _ _ _ h => h) (Or.inl ⟨by rfl, ?_⟩) (by assumption) ?_
              rotate_left 1
              · intro w hSw; (try dsimp only at hSw); go_simp; (with_reducible rfl)
              (try simp only [Act.put, List.getElem_toArray, List.getElem_cons_zero, List.getElem_cons_succ, List.setIfInBounds_toArray, List.set_cons_zero, List.set_cons_succ])
              as_aux_lemma =>
                refine wpAnyH_take1 (i := 83) (oi := _) (v := ?_) (by kernel_rfl) rfl (by kernel_rfl) (fun _ _ _ h => h) (Or.inl ⟨by rfl, ?_⟩) (by assumption) ?_
                rotate_left 1
                · intro w hSw; (try dsimp only at hSw); go_simp; (with_reducible rfl)
                (try simp only [Act.put, List.getElem_toArray, List.getElem_cons_zero, List.getElem_cons_succ, List.setIfInBounds_toArray, List.set_cons_zero, List.set_cons_succ])
                refine wpAnyH_one (i := 84) (by kernel_rfl) rfl (by rfl) fun K hK => ?_
                go_simp
                refine ((CutP_spec (a := 2) (HG7.out.at Seq.way) (rightG_iff.1 x_right) (by decide) (by decide))).mono ?_
                rintro e y8 ⟨_, rfl, hy8, hc8⟩
                have HY8 := below_step hy8 (Seq.way : Below W7.heap.size W7 _)
                have zy8 := HY8.size
                (try dsimp only)
                clear hHeld
                refine hK.out _ _ (Hkeep HY8).out fun hHeld => ?_
                clear hK K
                (try simp only [Act.put, List.getElem_toArray, List.getElem_cons_zero, List.getElem_cons_succ, List.setIfInBounds_toArray, List.set_cons_zero, List.set_cons_succ])
                rw [x_cut2] at hc8
                obtain ⟨va8, vr8, rfl, hA8, hR8⟩ := hc8
                obtain ⟨ca8, cc8, rfl⟩ : ∃ aa ac, va8 = .slice aa 0 ac := hA8.shape
                obtain ⟨qa8, qc8, rfl⟩ : ∃ aa ac, vr8 = .slice aa 0 ac := hR8.shape
                have hf8 := fun (w : World) => field_atoms w ca8 qa8 0 cc8 0 qc8
                clear hA8 hR8
                refine wpAnyH_take1 (i := 85) (oi := _) (v := ?_) (by kernel_rfl) rfl (by kernel_rfl) (fun _ _ _ h => h) (Or.inl ⟨by rfl, ?_⟩) (by assumption) ?_
                rotate_left 1
                · intro w hSw; (try dsimp only at hSw); go_simp; (with_reducible rfl)
                (try simp only [Act.put, List.getElem_toArray, List.getElem_cons_zero, List.getElem_cons_succ, List.setIfInBounds_toArray, List.set_cons_zero, List.set_cons_succ])
                refine wpAnyH_take1 (i := 86) (oi := _) (v := ?_) (by kernel_rfl) rfl (by kernel_rfl) (fun _ _ _ h => h) (Or.inl ⟨by rfl, ?_⟩) (by assumption) ?_
                rotate_left 1
                · intro w hSw; (try dsimp only at hSw); go_simp; (with_reducible rfl)
                (try simp only [Act.put, List.getElem_toArray, List.getElem_cons_zero, List.getElem_cons_succ, List.setIfInBounds_toArray, List.set_cons_zero, List.set_cons_succ])
                refine wpAnyH_take1 (i := 87) (oi := _) (v := ?_) (by kernel_rfl) rfl (by kernel_rfl) (fun _ _ _ h => h) (Or.inl ⟨by rfl, ?_⟩) (by assumption) ?_
                rotate_left 1
                · intro w hSw; (try dsimp only at hSw); go_simp; (with_reducible rfl)
                (try simp only [Act.put, List.getElem_toArray, List.getElem_cons_zero, List.getElem_cons_succ, List.setIfInBounds_toArray, List.set_cons_zero, List.set_cons_succ])
                refine wpAnyH_take1 (i := 88) (oi := _) (v := ?_) (by kernel_rfl) rfl (by kernel_rfl) (fun _ _ _ h => h) (Or.inl ⟨by rfl, ?_⟩) (by assumption) ?_
                rotate_left 1
                · intro w hSw; (try dsimp only at hSw); go_simp; (with_reducible rfl)
                (try simp only [Act.put, List.getElem_toArray, List.getElem_cons_zero, List.getElem_cons_succ, List.setIfInBounds_toArray, List.set_cons_zero, List.set_cons_succ])
                refine wpAnyH_take1 (i := 89) (oi := _) (v := ?_) (by kernel_rfl) rfl (by kernel_rfl) (fun _ _ _ h => h) (Or.inl ⟨by rfl, ?_⟩) (by assumption) ?_
                rotate_left 1
                · intro w hSw; (try dsimp only at hSw); go_simp; (with_reducible rfl)
                (try simp only [Act.put, List.getElem_toArray, List.getElem_cons_zero, List.getElem_cons_succ, List.setIfInBounds_toArray, List.set_cons_zero])
                refine wpAnyH_done (by kernel_rfl) ?_ _
                refine NoPanic.normal ?_
                go_wp2_with fail
                go_ret
                refine ⟨?_, B7.out.trans (HY8.mono B7.out.size)⟩
                rfl
end Go.Proofs.YtaedgpcmkagpeaaGreat
