/-
  Layer 18: the laws' head. (The contract of Do is a premise here.)
-/
import Derived.Test.YtdbennmbbmoflaaPrR
import Derived.Test.YtdbennmbbmoflaaRun
import Derived.Deep.Cut
import Derived.Deep.CutRange
import Derived.Deep.DeepCutAuto
import Derived.Outline
import Derived.ChangeKeysEq
namespace Go.Proofs.Ytdbennmbbmoflaa
open Go Go.RowKit

/-- A slice of one number, just made. -/
theorem seq1I {w : World} {B : Nat} {n : Int} (hn : IntOK n) (h : Row 3 w B [.int .i64 n]) : Seq intE (fun _ => True) w (.slice (some ⟨B, 0, none⟩) 1 1) [n] := by
  refine h.seq rfl (by simp) (by simp [maxLen]) (by simp) trivial fun k x hx => ?_
  obtain rfl : k = 0 := by have := (List.getElem?_eq_some_iff.1 hx).1; simp at this; omega
  simp at hx; subst hx
  exact ⟨_, ⟨rfl, hn⟩, fun j hj => by obtain rfl : j = 0 := (by have : j < 1 := hj; omega); rfl⟩
theorem seq2I {w : World} {B : Nat} {n m : Int} (hn : IntOK n) (hm : IntOK m) (h : Row 3 w B [.int .i64 n, .int .i64 m]) : Seq intE (fun _ => True) w (.slice (some ⟨B, 0, none⟩) 2 2) [n, m] := by
  refine h.seq rfl (by simp) (by simp [maxLen]) (by simp) trivial fun k x hx => ?_
  have hk := (List.getElem?_eq_some_iff.1 hx).1
  simp at hk
  rcases (show k = 0 ∨ k = 1 by omega) with rfl | rfl
  · simp at hx; subst hx
    exact ⟨_, ⟨rfl, hn⟩, fun j hj => by obtain rfl : j = 0 := (by have : j < 1 := hj; omega); rfl⟩
  · simp at hx; subst hx
    exact ⟨_, ⟨rfl, hm⟩, fun j hj => by obtain rfl : j = 0 := (by have : j < 1 := hj; omega); rfl⟩
theorem seq1R {S : Nat → Prop} {w : World} {B : Nat} {r : Rule} {p n : Value} (hS : S B) (h : Row 46 w B [.int .i64 r.head, p, n]) (h0 : IntOK r.head) (hp : Seq intE S w p r.pos) (hn : Seq intE S w n r.neg) : Seq ruleE S w (.slice (some ⟨B, 0, none⟩) 1 1) [r] := by
  refine h.seq rfl (by simp) (by simp [maxLen]) (by simp) hS fun k x hx => ?_
  obtain rfl : k = 0 := by have := (List.getElem?_eq_some_iff.1 hx).1; simp at this; omega
  simp at hx; subst hx
  refine ⟨_, ⟨p, n, rfl, h0, hp, hn⟩, fun j hj => ?_⟩
  have hj' : j < 3 := hj
  rcases (show j = 0 ∨ j = 1 ∨ j = 2 by omega) with rfl | rfl | rfl <;> rfl
theorem seq2R {S : Nat → Prop} {w : World} {B : Nat} {r q : Rule} {p n p' n' : Value} (hS : S B) (h : Row 46 w B [.int .i64 r.head, p, n, .int .i64 q.head, p', n']) (h0 : IntOK r.head) (hp : Seq intE S w p r.pos) (hn : Seq intE S w n r.neg) (h0' : IntOK q.head) (hp' : Seq intE S w p' q.pos) (hn' : Seq intE S w n' q.neg) :
    Seq ruleE S w (.slice (some ⟨B, 0, none⟩) 2 2) [r, q] := by
  refine h.seq rfl (by simp) (by simp [maxLen]) (by simp) hS fun k x hx => ?_
  have hk := (List.getElem?_eq_some_iff.1 hx).1
  simp at hk
  rcases (show k = 0 ∨ k = 1 by omega) with rfl | rfl
  · simp at hx; subst hx
    refine ⟨_, ⟨p, n, rfl, h0, hp, hn⟩, fun j hj => ?_⟩
    have hj' : j < 3 := hj
    rcases (show j = 0 ∨ j = 1 ∨ j = 2 by omega) with rfl | rfl | rfl <;> rfl
  · simp at hx; subst hx
    refine ⟨_, ⟨p', n', rfl, h0', hp', hn'⟩, fun j hj => ?_⟩
    have hj' : j < 3 := hj
    rcases (show j = 0 ∨ j = 1 ∨ j = 2 by omega) with rfl | rfl | rfl <;> rfl

def pa : Prog := madeL [⟨0, [], [1]⟩] 1
def pb : Prog := madeL [⟨0, [], [1]⟩, ⟨1, [], [0]⟩] 1
def pc : Prog := madeL [⟨0, [0], []⟩, ⟨1, [], [0]⟩] 1

theorem row_to {T : TypeId} {W w' : World} {B : Nat} {vs : List Value} (h : Row T W B vs) (hb : Below W.heap.size W w') : Row T w' B vs := h.below hb h.lt
theorem Row.drewE {T : TypeId} {w : World} {B : Nat} {vs : List Value} (h : Row T w B vs) : Row T w.drew B vs := h.at rfl
theorem pair_equal (x y a b : Int) (W : World) : Sem.run Try.prog (Op.equalIn 10000 23 (.agg #[.int .i64 x, .int .i64 y]) (.agg #[.int .i64 a, .int .i64 b])) W = .ok (decide ((x, y) = (a, b))) W := by
  show Sem.run Try.prog (Op.equalIn (9999 + 1) _ _ _) W = _
  rw [run_equalIn_array W 9999 (n := 2) (e := 3) #[.int .i64 x, .int .i64 y] #[.int .i64 a, .int .i64 b] (by kernel_rfl) (i := _) rfl]
  have h1 : ∀ p q : Int, Sem.run Try.prog (Op.equalIn 9999 3 (.int .i64 p) (.int .i64 q)) W = .ok (p == q) W := fun p q => run_equalIn_int W 9998 3 .i64 .i64 p q (by kernel_rfl)
  rw [show (List.range 2) = [0, 1] from rfl]
  have p0 : ∀ p q : Int, Sem.run Try.prog (part 3 #[.int .i64 p, .int .i64 q] (0 * Try.prog.cellsOf 3)) W = .ok (.int .i64 p) W := fun _ _ => by kernel_rfl
  have p1 : ∀ p q : Int, Sem.run Try.prog (part 3 #[.int .i64 p, .int .i64 q] (1 * Try.prog.cellsOf 3)) W = .ok (.int .i64 q) W := fun _ _ => by kernel_rfl
  simp only [Op.eqItems, Sem.run_bind, p0, h1, Result.andThen_ok]
  by_cases hx : x = a
  · subst hx
    simp only [beq_self_eq_true, Bool.not_true, Bool.false_eq_true, if_false, Sem.run_bind, p1, h1, Result.andThen_ok]
    by_cases hy : y = b
    · subst hy
      simp
    · simp [hy]
  · simp [hx]
def px : Prog := madeL [⟨0, [], []⟩] 1
def py : Prog := madeL [⟨1, [], []⟩] 1
/-- What stands before the head's last statement. -/
structure HeadM (w wx : World) (B2 B4 B10 LB Lo : Nat) (v2 u2 v4 u4 v10 u10 : Value) : Prop where
  bel : Below w.heap.size w wx
  r2 : Row 30 wx B2 [v2, u2]
  r4 : Row 30 wx B4 [v4, u4]
  r10 : Row 30 wx B10 [v10, u10]
  p2 : ProgV (fun _ => True) wx (.agg #[v2, u2]) pb
  p4 : ProgV (fun _ => True) wx (.agg #[v4, u4]) px
  p10 : ProgV (fun _ => True) wx (.agg #[v10, u10]) py
  ll : LB < wx.heap.size
  c0 : wx.cell? ⟨LB, Lo, none⟩ = some (.int .i64 5)
  c1 : wx.cell? ⟨LB, Lo + 1, none⟩ = some (.int .i64 0)
theorem v_do10 : doL pa (1, 0) = (px, true) := by decide
theorem v_do20 : (doL pa (2, 0)).2 = false := by decide
theorem v_do11 : (doL pa (1, 1)).2 = false := by decide
theorem v_tx : truthL px = [2, 0] := by decide
theorem v_rb : reduceL pb [] = pb := by decide
theorem v_cb : canL pb = [] := by decide
theorem v_tb : truthL pb = [1, 1] := by decide
theorem v_cc : canL pc = [(5, 0)] := by decide
theorem v_rc : reduceL pc [] = py := by decide
theorem v_ty : truthL py = [0, 2] := by decide
theorem pa_fine : FineP pa := madeL_fine _ _
theorem pb_fine : FineP pb := madeL_fine _ _
theorem pc_fine : FineP pc := madeL_fine _ _
theorem px_fine : FineP px := madeL_fine _ _
theorem py_fine : FineP py := madeL_fine _ _

theorem do_10 (hDo : DoIs) {S : Nat → Prop} {w : World} {v : Value} (hg : ProgV S w v pa) : Calls Try.prog 14 #[v, .agg #[.int .i64 1, .int .i64 0]] w (Ret (fun o w' => ∃ p, o = .tuple #[p, .bool true] ∧ ProgV (fun _ => True) w' p px) w) := by
  refine (hDo S w v pa 0 0 hg pa_fine (by omega) (by decide)).mono ?_
  rintro e w1 ⟨o, rfl, hb, p, rfl, hp⟩
  have hd : doL pa (((0 : Nat) : Int) + 1, ((0 : Nat) : Int)) = (px, true) := v_do10
  rw [hd] at hp ⊢
  exact ⟨_, rfl, hb, p, rfl, hp.any⟩
theorem do_20 (hDo : DoIs) {S : Nat → Prop} {w : World} {v : Value} (hg : ProgV S w v pa) : Calls Try.prog 14 #[v, .agg #[.int .i64 2, .int .i64 0]] w (Ret (fun o w' => ∃ p g, o = .tuple #[p, .bool false] ∧ ProgV (fun _ => True) w' p g) w) := by
  refine (hDo S w v pa 1 0 hg pa_fine (by omega) (by decide)).mono ?_
  rintro e w1 ⟨o, rfl, hb, p, rfl, hp⟩
  have hd : (doL pa (((1 : Nat) : Int) + 1, ((0 : Nat) : Int))).2 = false := v_do20
  rw [hd]
  exact ⟨_, rfl, hb, p, _, rfl, hp.any⟩
theorem do_11 {S : Nat → Prop} {w : World} {v : Value} (hg : ProgV S w v pa) : Calls Try.prog 14 #[v, .agg #[.int .i64 1, .int .i64 1]] w (RetV (.tuple #[v, .bool false]) w) :=
  DoP_no hg (.inr (.inr (.inr (by decide))))
theorem red_pb (hDo : DoIs) {S : Nat → Prop} {w : World} {v : Value} (hg : ProgV S w v pb) : Calls Try.prog 17 #[v, .slice none 0 0] w (Ret (fun o w' => ProgV (fun _ => True) w' o pb) w) := by
  refine (ReduceP_of hDo hg pb_fine (Seq.nil intE (fun _ => True) w)).mono ?_
  rintro e w1 ⟨o, rfl, hb, hp⟩
  rw [v_rb] at hp
  exact ⟨_, rfl, hb, hp.any⟩
theorem red_pc (hDo : DoIs) {S : Nat → Prop} {w : World} {v : Value} (hg : ProgV S w v pc) : Calls Try.prog 17 #[v, .slice none 0 0] w (Ret (fun o w' => ProgV (fun _ => True) w' o py) w) := by
  refine (ReduceP_of hDo hg pc_fine (Seq.nil intE (fun _ => True) w)).mono ?_
  rintro e w1 ⟨o, rfl, hb, hp⟩
  rw [v_rc] at hp
  exact ⟨_, rfl, hb, hp.any⟩
theorem can_pb {S : Nat → Prop} {w : World} {v : Value} (hg : ProgV S w v pb) : Calls Try.prog 12 #[v] w (Ret (fun o _ => ∃ a c, o = .slice a 0 c) w) := by
  refine (CanP_spec hg pb_fine).mono ?_
  rintro e w1 ⟨o, rfl, hb, hp⟩
  rw [v_cb] at hp
  obtain ⟨a, c, rfl, -⟩ := hp
  exact ⟨_, rfl, hb, _, _, rfl⟩
theorem can_pc {S : Nat → Prop} {w : World} {v : Value} (hg : ProgV S w v pc) : Calls Try.prog 12 #[v] w (Ret (fun o w' => ∃ B off c, o = .slice (some ⟨B, off, none⟩) 1 c ∧ B < w'.heap.size ∧ w'.cell? ⟨B, off, none⟩ = some (.int .i64 5) ∧ w'.cell? ⟨B, off + 1, none⟩ = some (.int .i64 0)) w) := by
  refine (CanP_spec hg pc_fine).mono ?_
  rintro e w1 ⟨o, rfl, hb, hp⟩
  rw [v_cc] at hp
  obtain ⟨a, c, rfl, -, -, -, -, hs⟩ := hp
  obtain ⟨B, off, rfl, -, hlt, e0, e1, -⟩ := hs.pair (k := 0) (by simp)
  simp only [Nat.zero_mul, Nat.add_zero, List.getElem_cons_zero] at e0 e1
  exact ⟨_, rfl, hb, B, off, c, rfl, hlt, e0, e1⟩
theorem truth_px {S : Nat → Prop} {w : World} {v : Value} (hg : ProgV S w v px) : Calls Try.prog 20 #[v] w (Ret (fun o w' => Seq intE (fun _ => True) w' o [2, 0]) w) := by
  refine (TruthP_spec hg px_fine).mono ?_
  rintro e w1 ⟨o, rfl, hb, hp⟩
  rw [v_tx] at hp
  exact ⟨_, rfl, hb, hp.mono (fun _ _ _ => trivial) fun _ _ _ => rfl⟩
theorem truth_pb {S : Nat → Prop} {w : World} {v : Value} (hg : ProgV S w v pb) : Calls Try.prog 20 #[v] w (Ret (fun o w' => Seq intE (fun _ => True) w' o [1, 1]) w) := by
  refine (TruthP_spec hg pb_fine).mono ?_
  rintro e w1 ⟨o, rfl, hb, hp⟩
  rw [v_tb] at hp
  exact ⟨_, rfl, hb, hp.mono (fun _ _ _ => trivial) fun _ _ _ => rfl⟩
theorem truth_py {S : Nat → Prop} {w : World} {v : Value} (hg : ProgV S w v py) : Calls Try.prog 20 #[v] w (Ret (fun o w' => Seq intE (fun _ => True) w' o [0, 2]) w) := by
  refine (TruthP_spec hg py_fine).mono ?_
  rintro e w1 ⟨o, rfl, hb, hp⟩
  rw [v_ty] at hp
  exact ⟨_, rfl, hb, hp.mono (fun _ _ _ => trivial) fun _ _ _ => rfl⟩
theorem ints_eq {S T : Nat → Prop} {w : World} {v u : Value} {l : List Int} (hl : Seq intE S w v l) (hm : Seq intE T w u l) : Calls Try.prog 19 #[v, u] w (RetV (.bool true) w) := by
  refine (Ints_spec hl hm).mono ?_
  rintro e w1 ⟨rfl, n, rfl⟩
  have : (lessL l l == 0) = true := by rw [lessL_zero.2 rfl]; rfl
  rw [this]
  exact ⟨rfl, below_drewN (Below.refl _ _) n⟩
theorem same_eq {S T : Nat → Prop} {w : World} {v u : Value} {a : Prog} (ha : ProgV S w v a) (hb : ProgV T w u a) : Calls Try.prog 16 #[v, u] w (RetV (.bool true) w) := by
  have h := Same_spec ha hb
  rw [show decide (a = a) = true from decide_eq_true rfl] at h
  exact h



set_option maxHeartbeats 8000000 in
set_option maxRecDepth 100000 in
theorem head_of (hDo : DoIs) {w : World} : Calls Try.prog 10 #[] w (RetV (.bool true) w) := by
  have HDo := Lib.hid hDo
  clear hDo
  have i0 : IntOK 0 := ⟨by omega, by omega⟩
  have i1 : IntOK 1 := ⟨by omega, by omega⟩
  have i2 : IntOK 2 := ⟨by omega, by omega⟩
  go_enter Try.func10, Try.ntmps10
  go_wp2_with fail
  refine (Made_spec (S := fun _ => True) (n := 1) (l := [⟨0, [], [1]⟩]) (seq1R trivial (Row.new (w.alloc _) _ _ (by simp)) i0 (Seq.nil _ _ _) (seq1I i1 ((Row.new w _ _ rfl).alloc _))) (by omega)).mono ?_
  rintro e w1 ⟨v1, rfl, hb1, hp1⟩
  replace hp1 : ProgV (fun _ => True) w1 v1 pa := hp1.any
  obtain ⟨aa1, ac1, ra1, rc1, rfl⟩ := hp1.shape
  have P1_1 := Lib.hid (show ProgV _ w1 _ pa from hp1)
  clear hp1
  have Hb1 : Hid (Below w.heap.size w w1) := Lib.hid (below_step hb1 Seq.way)
  have z1 := Hb1.out.size
  clear hb1
  go_wp2_with fail
  refine (Made_spec (S := fun _ => True) (n := 1) (l := [⟨0, [], [1]⟩, ⟨1, [], [0]⟩]) (seq2R trivial (Row.new (((w1.alloc _).alloc _).alloc _) _ _ (by simp)) i0 (Seq.nil _ _ _) (seq1I i1 (((Row.new (w1.alloc _) _ _ (by simp)).alloc _).alloc _)) i1 (Seq.nil _ _ _) (seq1I i0 ((Row.new ((w1.alloc _).alloc _) _ _ (by simp)).alloc _))) (by omega)).mono ?_
  rintro e w2 ⟨v2, rfl, hb2, hp2⟩
  replace hp2 : ProgV (fun _ => True) w2 v2 pb := hp2.any
  obtain ⟨aa2, ac2, ra2, rc2, rfl⟩ := hp2.shape
  have P2_2 := Lib.hid (show ProgV _ w2 _ pb from hp2)
  clear hp2
  have R1_2 := Lib.hid (row_to (Row.alloc (Row.alloc (Row.alloc (Row.new w1 _ _ rfl) _) _) _) hb2)
  have Hb2 : Hid (Below w1.heap.size w1 w2) := Lib.hid (below_step hb2 Seq.way)
  have z2 := Hb2.out.size
  clear hb2
  have P1_2 := Lib.hid (P1_1.out.at Hb2.out)
  clear P1_1
  go_wp2_with fail
  refine (Made_spec (S := fun _ => True) (n := 1) (l := [⟨0, [0], []⟩, ⟨1, [], [0]⟩]) (seq2R trivial (Row.new (((w2.alloc _).alloc _).alloc _) _ _ (by simp)) i0 (seq1I i0 (((Row.new (w2.alloc _) _ _ (by simp)).alloc _).alloc _)) (Seq.nil _ _ _) i1 (Seq.nil _ _ _) (seq1I i0 ((Row.new ((w2.alloc _).alloc _) _ _ (by simp)).alloc _))) (by omega)).mono ?_
  rintro e w3 ⟨v3, rfl, hb3, hp3⟩
  replace hp3 : ProgV (fun _ => True) w3 v3 pc := hp3.any
  obtain ⟨aa3, ac3, ra3, rc3, rfl⟩ := hp3.shape
  have P3_3 := Lib.hid (show ProgV _ w3 _ pc from hp3)
  clear hp3
  have R2_3 := Lib.hid (row_to (Row.alloc (Row.alloc (Row.alloc (Row.new w2 _ _ rfl) _) _) _) hb3)
  have Hb3 : Hid (Below w2.heap.size w2 w3) := Lib.hid (below_step hb3 Seq.way)
  have z3 := Hb3.out.size
  clear hb3
  have P1_3 := Lib.hid (P1_2.out.at Hb3.out)
  clear P1_2
  have P2_3 := Lib.hid (P2_2.out.at Hb3.out)
  clear P2_2
  have R1_3 := Lib.hid (row_to R1_2.out Hb3.out)
  clear R1_2
  have c10_3 := R1_3.out.cell (j := 0) (by simp)
  have c11_3 := R1_3.out.cell (j := 1) (by simp)
  simp only [List.getElem_cons_zero, List.getElem_cons_succ] at c10_3 c11_3
  have l1_3 := R1_3.out.lt
  go_wp2_with fail
  refine (do_10 HDo.out (P1_3.out.at Seq.way)).mono ?_
  rintro e w4 ⟨_, rfl, hb4, v4, rfl, hp4⟩
  replace hp4 : ProgV (fun _ => True) w4 v4 px := hp4.any
  obtain ⟨aa4, ac4, ra4, rc4, rfl⟩ := hp4.shape
  have P4_4 := Lib.hid (show ProgV _ w4 _ px from hp4)
  clear hp4
  have R3_4 := Lib.hid (row_to (Row.new w3 _ _ rfl) hb4)
  have Hb4 : Hid (Below w3.heap.size w3 w4) := Lib.hid (below_step hb4 Seq.way)
  have z4 := Hb4.out.size
  clear hb4
  have P1_4 := Lib.hid (P1_3.out.at Hb4.out)
  clear P1_3
  have P2_4 := Lib.hid (P2_3.out.at Hb4.out)
  clear P2_3
  have P3_4 := Lib.hid (P3_3.out.at Hb4.out)
  clear P3_3
  have R1_4 := Lib.hid (row_to R1_3.out Hb4.out)
  clear R1_3
  have R2_4 := Lib.hid (row_to R2_3.out Hb4.out)
  clear R2_3
  have c10_4 := R1_4.out.cell (j := 0) (by simp)
  have c11_4 := R1_4.out.cell (j := 1) (by simp)
  simp only [List.getElem_cons_zero, List.getElem_cons_succ] at c10_4 c11_4
  have l1_4 := R1_4.out.lt
  go_wp2_with fail
  refine (do_20 HDo.out (P1_4.out.at Seq.way)).mono ?_
  rintro e w5 ⟨_, rfl, hb5, v5, gx, rfl, hp5⟩
  obtain ⟨aa5, ac5, ra5, rc5, rfl⟩ := hp5.shape
  clear hp5
  have R4_5 := Lib.hid (row_to (Row.new w4 _ _ rfl) hb5)
  have Hb5 : Hid (Below w4.heap.size w4 w5) := Lib.hid (below_step hb5 Seq.way)
  have z5 := Hb5.out.size
  clear hb5
  have P1_5 := Lib.hid (P1_4.out.at Hb5.out)
  clear P1_4
  have P2_5 := Lib.hid (P2_4.out.at Hb5.out)
  clear P2_4
  have P3_5 := Lib.hid (P3_4.out.at Hb5.out)
  clear P3_4
  have P4_5 := Lib.hid (P4_4.out.at Hb5.out)
  clear P4_4
  have R1_5 := Lib.hid (row_to R1_4.out Hb5.out)
  clear R1_4
  have R2_5 := Lib.hid (row_to R2_4.out Hb5.out)
  clear R2_4
  have R3_5 := Lib.hid (row_to R3_4.out Hb5.out)
  clear R3_4
  have c10_5 := R1_5.out.cell (j := 0) (by simp)
  have c11_5 := R1_5.out.cell (j := 1) (by simp)
  simp only [List.getElem_cons_zero, List.getElem_cons_succ] at c10_5 c11_5
  have l1_5 := R1_5.out.lt
  go_wp2_with fail
  refine (do_11 (P1_5.out.at Seq.way)).mono ?_
  rintro e w6 ⟨rfl, hb6⟩
  have Hb6 : Hid (Below w5.heap.size w5 w6) := Lib.hid (below_step hb6 Seq.way)
  have z6 := Hb6.out.size
  clear hb6
  have P1_6 := Lib.hid (P1_5.out.at Hb6.out)
  clear P1_5
  have P2_6 := Lib.hid (P2_5.out.at Hb6.out)
  clear P2_5
  have P3_6 := Lib.hid (P3_5.out.at Hb6.out)
  clear P3_5
  have P4_6 := Lib.hid (P4_5.out.at Hb6.out)
  clear P4_5
  have R1_6 := Lib.hid (row_to R1_5.out Hb6.out)
  clear R1_5
  have R2_6 := Lib.hid (row_to R2_5.out Hb6.out)
  clear R2_5
  have R3_6 := Lib.hid (row_to R3_5.out Hb6.out)
  clear R3_5
  have R4_6 := Lib.hid (row_to R4_5.out Hb6.out)
  clear R4_5
  have c30_6 := R3_6.out.cell (j := 0) (by simp)
  have c31_6 := R3_6.out.cell (j := 1) (by simp)
  simp only [List.getElem_cons_zero, List.getElem_cons_succ] at c30_6 c31_6
  have l3_6 := R3_6.out.lt
  go_wp2_with fail
  refine (red_pc HDo.out (P3_6.out.at Seq.way)).mono ?_
  rintro e w7 ⟨v7, rfl, hb7, hp7⟩
  replace hp7 : ProgV (fun _ => True) w7 v7 py := hp7.any
  obtain ⟨aa7, ac7, ra7, rc7, rfl⟩ := hp7.shape
  have P10_7 := Lib.hid (show ProgV _ w7 _ py from hp7)
  clear hp7
  have Hb7 : Hid (Below w6.heap.size w6 w7) := Lib.hid (below_step hb7 Seq.way)
  have z7 := Hb7.out.size
  clear hb7
  have P1_7 := Lib.hid (P1_6.out.at Hb7.out)
  clear P1_6
  have P2_7 := Lib.hid (P2_6.out.at Hb7.out)
  clear P2_6
  have P3_7 := Lib.hid (P3_6.out.at Hb7.out)
  clear P3_6
  have P4_7 := Lib.hid (P4_6.out.at Hb7.out)
  clear P4_6
  have R1_7 := Lib.hid (row_to R1_6.out Hb7.out)
  clear R1_6
  have R2_7 := Lib.hid (row_to R2_6.out Hb7.out)
  clear R2_6
  have R3_7 := Lib.hid (row_to R3_6.out Hb7.out)
  clear R3_6
  have R4_7 := Lib.hid (row_to R4_6.out Hb7.out)
  clear R4_6
  have c30_7 := R3_7.out.cell (j := 0) (by simp)
  have c31_7 := R3_7.out.cell (j := 1) (by simp)
  simp only [List.getElem_cons_zero, List.getElem_cons_succ] at c30_7 c31_7
  have l3_7 := R3_7.out.lt
  go_upto_region 8 with fail
  go_cut [2, 4, 5, 7, 9, 10, 11] (fun s2 s4 s5 s7 s9 s10 s11 wx => ∃ B2 B4 B10 LB Lo Lc x2 y2 x4 y4 x10 y10, s2 = .pointer (some ⟨B2, 0, none⟩) ∧ s4 = .pointer (some ⟨B4, 0, none⟩) ∧ s10 = .pointer (some ⟨B10, 0, none⟩) ∧ s5 = .bool true ∧ s7 = .bool false ∧ s9 = .bool false ∧ s11 = .slice (some ⟨LB, Lo, none⟩) 1 Lc ∧
    HeadM w wx B2 B4 B10 LB Lo x2 y2 x4 y4 x10 y10)
  case first =>
    go_wp2_with fail
    refine (can_pc (P3_7.out.at Seq.way)).mono ?_
    rintro e w8 ⟨_, rfl, hb8, LB, Lo, Lc, rfl, Ll, Lc0, Lc1⟩
    have R10_8 := Lib.hid (row_to (Row.new w7 _ _ rfl) hb8)
    have Hb8 : Hid (Below w7.heap.size w7 w8) := Lib.hid (below_step hb8 Seq.way)
    have z8 := Hb8.out.size
    clear hb8
    have P1_8 := Lib.hid (P1_7.out.at Hb8.out)
    clear P1_7
    have P2_8 := Lib.hid (P2_7.out.at Hb8.out)
    clear P2_7
    have P3_8 := Lib.hid (P3_7.out.at Hb8.out)
    clear P3_7
    have P4_8 := Lib.hid (P4_7.out.at Hb8.out)
    clear P4_7
    have P10_8 := Lib.hid (P10_7.out.at Hb8.out)
    clear P10_7
    have R1_8 := Lib.hid (row_to R1_7.out Hb8.out)
    clear R1_7
    have R2_8 := Lib.hid (row_to R2_7.out Hb8.out)
    clear R2_7
    have R3_8 := Lib.hid (row_to R3_7.out Hb8.out)
    clear R3_7
    have R4_8 := Lib.hid (row_to R4_7.out Hb8.out)
    clear R4_7
    go_wp2_with fail
    go_meet
    exact ⟨_, _, _, LB, Lo, Lc, _, _, _, _, _, _, rfl, rfl, rfl, rfl, rfl, rfl, rfl, ⟨(Hb1.out.trans ((Hb2.out.trans ((Hb3.out.trans ((Hb4.out.trans ((Hb5.out.trans ((Hb6.out.trans ((Hb7.out.trans (Hb8.out.mono z7)).mono z6)).mono z5)).mono z4)).mono z3)).mono z2)).mono z1)), R2_8.out, R4_8.out, R10_8.out, P2_8.out, P4_8.out, P10_8.out, Ll, Lc0, Lc1⟩⟩
  case rest =>
  obtain ⟨B2, B4, B10, LB, Lo, Lc, x2, y2, x4, y4, x10, y10, rfl, rfl, rfl, rfl, rfl, rfl, rfl, HM⟩ := hcut
  obtain ⟨aa2, ac2, ra2, rc2, e2⟩ := HM.p2.shape
  obtain ⟨aa4, ac4, ra4, rc4, e4⟩ := HM.p4.shape
  obtain ⟨aa7, ac7, ra7, rc7, e7⟩ := HM.p10.shape
  simp only [Value.agg.injEq, Array.mk.injEq, List.cons.injEq, and_true] at e2 e4 e7
  obtain ⟨rfl, rfl⟩ := e2
  obtain ⟨rfl, rfl⟩ := e4
  obtain ⟨rfl, rfl⟩ := e7
  obtain ⟨w8, rfl⟩ : ∃ w8, w8 = wc := ⟨_, rfl⟩
  have P2_8 := Lib.hid HM.p2
  have P4_8 := Lib.hid HM.p4
  have P10_8 := Lib.hid HM.p10
  have HM' := Lib.hid HM
  clear HM
  have hkeep : ∀ {W : World}, Below w8.heap.size w8 W → W.cell? ⟨B2, 0, none⟩ = some (.slice aa2 pb.atoms.length ac2) ∧ W.cell? ⟨B2, 1, none⟩ = some (.slice ra2 pb.rules.length rc2) ∧ W.cell? ⟨B4, 0, none⟩ = some (.slice aa4 px.atoms.length ac4) ∧ W.cell? ⟨B4, 1, none⟩ = some (.slice ra4 px.rules.length rc4) ∧ W.cell? ⟨B10, 0, none⟩ = some (.slice aa7 py.atoms.length ac7) ∧ W.cell? ⟨B10, 1, none⟩ = some (.slice ra7 py.rules.length rc7) ∧ W.cell? ⟨LB, Lo, none⟩ = some (.int .i64 5) ∧ W.cell? ⟨LB, Lo + 1, none⟩ = some (.int .i64 0) := fun hW =>
    ⟨(row_to HM'.out.r2 hW).cell (j := 0) (by simp), (row_to HM'.out.r2 hW).cell (j := 1) (by simp), (row_to HM'.out.r4 hW).cell (j := 0) (by simp), (row_to HM'.out.r4 hW).cell (j := 1) (by simp), (row_to HM'.out.r10 hW).cell (j := 0) (by simp), (row_to HM'.out.r10 hW).cell (j := 1) (by simp), (hW.cell (p := ⟨LB, Lo, none⟩) HM'.out.ll).trans HM'.out.c0, (hW.cell (p := ⟨LB, Lo + 1, none⟩) HM'.out.ll).trans HM'.out.c1⟩
  have Hkeep := fun {W : World} (hW : Below w8.heap.size w8 W) => Lib.hid (hkeep hW)
  clear hkeep
  have hpe : ∀ W, Sem.run Try.prog (Op.equalIn 10000 23 (.agg #[.int .i64 5, .int .i64 0]) (.agg #[.int .i64 5, .int .i64 0])) W = .ok true W := fun W => pair_equal 5 0 5 0 W
  go_upto_region 9 with fail
  simp only [List.append_eq, List.cons_append, List.nil_append]
  refine wp_region_noPanic ?_
  refine wp_region_held_drew (S := fun w' => w'.cell? ⟨B2, 0, none⟩ = some (.slice aa2 pb.atoms.length ac2) ∧ w'.cell? ⟨B2, 1, none⟩ = some (.slice ra2 pb.rules.length rc2) ∧ w'.cell? ⟨B4, 0, none⟩ = some (.slice aa4 px.atoms.length ac4) ∧ w'.cell? ⟨B4, 1, none⟩ = some (.slice ra4 px.rules.length rc4) ∧ w'.cell? ⟨B10, 0, none⟩ = some (.slice aa7 py.atoms.length ac7) ∧ w'.cell? ⟨B10, 1, none⟩ = some (.slice ra7 py.rules.length rc7) ∧ w'.cell? ⟨LB, Lo, none⟩ = some (.int .i64 5) ∧ w'.cell? ⟨LB, Lo + 1, none⟩ = some (.int .i64 0)) (by kernel_rfl) ?_ (fun hHeld => ?_)
  · exact (Hkeep (Below.drew (Below.refl _ _))).out
  refine wpAnyH_take1 (i := 0) (oi := _) (v := ?_) (by kernel_rfl) rfl (by kernel_rfl) (fun _ _ _ h => h) (Or.inl ⟨by rfl, ?_⟩) (by assumption) ?_
  rotate_left 1
  · intro w hSw; (try dsimp only at hSw); go_simp; (with_reducible rfl)
  simp only [Act.put, List.getElem_toArray, List.getElem_cons_zero, List.setIfInBounds_toArray, List.set_cons_zero, List.set_cons_succ]
  refine wpAnyH_take1 (i := 1) (oi := _) (v := ?_) (by kernel_rfl) rfl (by kernel_rfl) (fun _ _ _ h => h) (Or.inl ⟨by rfl, ?_⟩) (by assumption) ?_
  rotate_left 1
  · intro w hSw; (try dsimp only at hSw); go_simp; (with_reducible rfl)
  simp only [Act.put, List.getElem_toArray, List.getElem_cons_zero, List.getElem_cons_succ, List.setIfInBounds_toArray, List.set_cons_zero, List.set_cons_succ]
  refine wpAnyH_one (i := 2) (by kernel_rfl) rfl (by rfl) fun K hK => ?_
  go_simp
  clear hHeld
  refine hK.out _ _ (Hkeep Seq.way).out fun hHeld => ?_
  clear hK K
  (try simp only [Act.put, List.getElem_toArray, List.getElem_cons_zero, List.getElem_cons_succ, List.setIfInBounds_toArray, List.set_cons_zero, List.set_cons_succ])
  refine wpAnyH_one (i := 3) (by kernel_rfl) rfl (by rfl) fun K hK => ?_
  go_simp
  refine (Made_spec (S := fun _ => True) (n := 1) (l := [⟨0, [], []⟩]) (seq1R trivial (by first | exact Row.new _ _ _ rfl | exact Row.drewE (Row.new _ _ _ rfl)) i0 (Seq.nil _ _ _) (Seq.nil _ _ _)) (by omega)).mono ?_
  rintro e wq1 ⟨vq1, rfl, hq1, hp1⟩
  replace hp1 : ProgV (fun _ => True) wq1 vq1 px := hp1.any
  have HQ1 := below_step hq1 (Seq.way : Below w8.heap.size w8 _)
  have zq1 := HQ1.size
  (try dsimp only)
  clear hHeld
  refine hK.out _ _ (Hkeep Seq.way).out fun hHeld => ?_
  clear hK K
  (try simp only [Act.put, List.getElem_toArray, List.getElem_cons_zero, List.getElem_cons_succ, List.setIfInBounds_toArray, List.set_cons_zero, List.set_cons_succ])
  refine wpAnyH_one (i := 4) (by kernel_rfl) rfl (by rfl) fun K hK => ?_
  go_simp
  refine (same_eq (P4_8.out.at Seq.way) (ProgV.at hp1 Seq.way)).mono ?_
  rintro e wq2 ⟨rfl, hq2⟩
  have HQ2 := below_step hq2 (Seq.way : Below w8.heap.size w8 _)
  have zq2 := HQ2.size
  (try dsimp only)
  clear hHeld
  refine hK.out _ _ (Hkeep Seq.way).out fun hHeld => ?_
  clear hK K
  (try simp only [Act.put, List.getElem_toArray, List.getElem_cons_zero, List.getElem_cons_succ, List.setIfInBounds_toArray, List.set_cons_zero, List.set_cons_succ])
  refine wpAnyH_take1 (i := 5) (oi := _) (v := ?_) (by kernel_rfl) rfl (by kernel_rfl) (fun _ _ _ h => h) (Or.inl ⟨by rfl, ?_⟩) (by assumption) ?_
  rotate_left 1
  · intro w hSw; (try dsimp only at hSw); go_simp; (with_reducible rfl)
  simp only [Act.put, List.getElem_toArray, List.getElem_cons_zero, List.getElem_cons_succ, List.setIfInBounds_toArray, List.set_cons_zero, List.set_cons_succ]
  refine wpAnyH_take1 (i := 6) (oi := _) (v := ?_) (by kernel_rfl) rfl (by kernel_rfl) (fun _ _ _ h => h) (Or.inl ⟨by rfl, ?_⟩) (by assumption) ?_
  rotate_left 1
  · intro w hSw; (try dsimp only at hSw); go_simp; (with_reducible rfl)
  simp only [Act.put, List.getElem_toArray, List.getElem_cons_zero, List.getElem_cons_succ, List.setIfInBounds_toArray, List.set_cons_zero, List.set_cons_succ]
  refine wpAnyH_take1 (i := 7) (oi := _) (v := ?_) (by kernel_rfl) rfl (by kernel_rfl) (fun _ _ _ h => h) (Or.inl ⟨by rfl, ?_⟩) (by assumption) ?_
  rotate_left 1
  · intro w hSw; (try dsimp only at hSw); go_simp; (with_reducible rfl)
  simp only [Act.put, List.getElem_toArray, List.getElem_cons_zero, List.getElem_cons_succ, List.setIfInBounds_toArray, List.set_cons_zero, List.set_cons_succ]
  refine wpAnyH_take1 (i := 8) (oi := _) (v := ?_) (by kernel_rfl) rfl (by kernel_rfl) (fun _ _ _ h => h) (Or.inl ⟨by rfl, ?_⟩) (by assumption) ?_
  rotate_left 1
  · intro w hSw; (try dsimp only at hSw); go_simp; (with_reducible rfl)
  simp only [Act.put, List.getElem_toArray, List.getElem_cons_zero, List.getElem_cons_succ, List.setIfInBounds_toArray, List.set_cons_zero, List.set_cons_succ]
  refine wpAnyH_take1 (i := 9) (oi := _) (v := ?_) (by kernel_rfl) rfl (by kernel_rfl) (fun _ _ _ h => h) (Or.inl ⟨by rfl, ?_⟩) (by assumption) ?_
  rotate_left 1
  · intro w hSw; (try dsimp only at hSw); go_simp; (with_reducible rfl)
  simp only [Act.put, List.getElem_toArray, List.getElem_cons_zero, List.getElem_cons_succ, List.setIfInBounds_toArray, List.set_cons_zero, List.set_cons_succ]
  refine wpAnyH_take1 (i := 10) (oi := _) (v := ?_) (by kernel_rfl) rfl (by kernel_rfl) (fun _ _ _ h => h) (Or.inl ⟨by rfl, ?_⟩) (by assumption) ?_
  rotate_left 1
  · intro w hSw; (try dsimp only at hSw); go_simp; (with_reducible rfl)
  simp only [Act.put, List.getElem_toArray, List.getElem_cons_zero, List.getElem_cons_succ, List.setIfInBounds_toArray, List.set_cons_zero, List.set_cons_succ]
  refine wpAnyH_take1 (i := 11) (oi := _) (v := ?_) (by kernel_rfl) rfl (by kernel_rfl) (fun _ _ _ h => h) (Or.inl ⟨by rfl, ?_⟩) (by assumption) ?_
  rotate_left 1
  · intro w hSw; (try dsimp only at hSw); go_simp; (with_reducible rfl)
  simp only [Act.put, List.getElem_toArray, List.getElem_cons_zero, List.getElem_cons_succ, List.setIfInBounds_toArray, List.set_cons_zero, List.set_cons_succ]
  refine wpAnyH_take1 (i := 12) (oi := _) (v := ?_) (by kernel_rfl) rfl (by kernel_rfl) (fun _ _ _ h => h) (Or.inl ⟨by rfl, ?_⟩) (by assumption) ?_
  rotate_left 1
  · intro w hSw; (try dsimp only at hSw); go_simp; (with_reducible rfl)
  simp only [Act.put, List.getElem_toArray, List.getElem_cons_zero, List.getElem_cons_succ, List.setIfInBounds_toArray, List.set_cons_zero, List.set_cons_succ]
  refine wpAnyH_take1 (i := 13) (oi := _) (v := ?_) (by kernel_rfl) rfl (by kernel_rfl) (fun _ _ _ h => h) (Or.inl ⟨by rfl, ?_⟩) (by assumption) ?_
  rotate_left 1
  · intro w hSw; (try dsimp only at hSw); go_simp; (with_reducible rfl)
  simp only [Act.put, List.getElem_toArray, List.getElem_cons_zero, List.getElem_cons_succ, List.setIfInBounds_toArray, List.set_cons_zero, List.set_cons_succ]
  refine wpAnyH_take1 (i := 14) (oi := _) (v := ?_) (by kernel_rfl) rfl (by kernel_rfl) (fun _ _ _ h => h) (Or.inl ⟨by rfl, ?_⟩) (by assumption) ?_
  rotate_left 1
  · intro w hSw; (try dsimp only at hSw); go_simp; (with_reducible rfl)
  simp only [Act.put, List.getElem_toArray, List.getElem_cons_zero, List.getElem_cons_succ, List.setIfInBounds_toArray, List.set_cons_zero, List.set_cons_succ]
  refine wpAnyH_take1 (i := 15) (oi := _) (v := ?_) (by kernel_rfl) rfl (by kernel_rfl) (fun _ _ _ h => h) (Or.inl ⟨by rfl, ?_⟩) (by assumption) ?_
  rotate_left 1
  · intro w hSw; (try dsimp only at hSw); go_simp; (with_reducible rfl)
  simp only [Act.put, List.getElem_toArray, List.getElem_cons_zero, List.getElem_cons_succ, List.setIfInBounds_toArray, List.set_cons_zero, List.set_cons_succ]
  refine wpAnyH_take1 (i := 16) (oi := _) (v := ?_) (by kernel_rfl) rfl (by kernel_rfl) (fun _ _ _ h => h) (Or.inl ⟨by rfl, ?_⟩) (by assumption) ?_
  rotate_left 1
  · intro w hSw; (try dsimp only at hSw); go_simp; (with_reducible rfl)
  simp only [Act.put, List.getElem_toArray, List.getElem_cons_zero, List.getElem_cons_succ, List.setIfInBounds_toArray, List.set_cons_zero, List.set_cons_succ]
  refine wpAnyH_take1 (i := 17) (oi := _) (v := ?_) (by kernel_rfl) rfl (by kernel_rfl) (fun _ _ _ h => h) (Or.inl ⟨by rfl, ?_⟩) (by assumption) ?_
  rotate_left 1
  · intro w hSw; (try dsimp only at hSw); go_simp; (with_reducible rfl)
  simp only [Act.put, List.getElem_toArray, List.getElem_cons_zero, List.getElem_cons_succ, List.setIfInBounds_toArray, List.set_cons_zero, List.set_cons_succ]
  clear hHeld
  refine wpAnyH_two (i := 18) (j := 19) (di := 68) (dj := 69) (by kernel_rfl) (by kernel_rfl) (by kernel_rfl) (by decide) rfl rfl (by decide) (by rfl) (by rfl) (fun _ => by rfl) (fun _ => by rfl)
    (fun v w' => Below w8.heap.size w8 w' ∧ Seq intE (fun _ => True) w' v [2, 0]) (fun u w' => Below w8.heap.size w8 w' ∧ ∃ B, u = .slice (some ⟨B, 0, none⟩) 2 2 ∧ Row 3 w' B [.int .i64 2, .int .i64 0]) (fun v u w' => Below w8.heap.size w8 w' ∧ Seq intE (fun _ => True) w' v [2, 0] ∧ ∃ B, u = .slice (some ⟨B, 0, none⟩) 2 2 ∧ Row 3 w' B [.int .i64 2, .int .i64 0]) ?_ ?_ ?_ ?_ ?_
  · intro K hK
    simp only [Act.put, List.setIfInBounds_toArray, List.set_cons_zero, List.set_cons_succ] at hK
    go_simp
    refine (truth_px (P4_8.out.at Seq.way)).mono ?_
    rintro e w1 ⟨v, rfl, hb, hp⟩
    have HB := below_step hb (Seq.way : Below w8.heap.size w8 _)
    exact hK.out _ _ (Hkeep HB).out ⟨HB, hp⟩
  · rintro v w1 ⟨HB, hp⟩ K hK
    have z1 := HB.size
    simp only [Act.put, List.setIfInBounds_toArray, List.set_cons_zero, List.set_cons_succ] at hK
    simp only [Act.put, List.getElem_toArray, List.getElem_cons_zero, List.getElem_cons_succ, List.setIfInBounds_toArray, List.set_cons_zero, List.set_cons_succ]
    go_simp
    exact hK.out _ _ (Hkeep Seq.way).out ⟨Seq.way, hp.to, _, rfl, Row.new _ _ _ rfl⟩
  · intro K hK
    simp only [Act.put, List.setIfInBounds_toArray, List.set_cons_zero, List.set_cons_succ] at hK
    go_simp
    exact hK.out _ _ (Hkeep Seq.way).out ⟨Seq.way, _, rfl, Row.new _ _ _ rfl⟩
  · rintro u w1 ⟨HB, B, rfl, hR⟩ K hK
    have z1 := HB.size
    simp only [Act.put, List.setIfInBounds_toArray, List.set_cons_zero, List.set_cons_succ] at hK
    simp only [Act.put, List.getElem_toArray, List.getElem_cons_zero, List.getElem_cons_succ, List.setIfInBounds_toArray, List.set_cons_zero, List.set_cons_succ]
    go_simp
    refine (truth_px (P4_8.out.at Seq.way)).mono ?_
    rintro e w2 ⟨v, rfl, hb, hp⟩
    have HB' := below_step hb HB
    exact hK.out _ _ (Hkeep HB').out ⟨HB', hp, _, rfl, row_to hR hb⟩
  rintro v3 _ wt3 hHeld ⟨HQ3, hp3, B3, rfl, hR3⟩
  have zq3 := HQ3.size
  simp only [Act.put, List.setIfInBounds_toArray, List.set_cons_zero, List.set_cons_succ]
  refine wpAnyH_one (i := 20) (by kernel_rfl) rfl (by rfl) fun K hK => ?_
  go_simp
  refine (ints_eq (hp3.to) (seq2I i2 i0 hR3)).mono ?_
  rintro e wq4 ⟨rfl, hq4⟩
  have HQ4 := below_step hq4 (Seq.way : Below w8.heap.size w8 _)
  have zq4 := HQ4.size
  (try dsimp only)
  clear hHeld
  refine hK.out _ _ (Hkeep Seq.way).out fun hHeld => ?_
  clear hK K
  (try simp only [Act.put, List.getElem_toArray, List.getElem_cons_zero, List.getElem_cons_succ, List.setIfInBounds_toArray, List.set_cons_zero, List.set_cons_succ])
  refine wpAnyH_take1 (i := 21) (oi := _) (v := ?_) (by kernel_rfl) rfl (by kernel_rfl) (fun _ _ _ h => h) (Or.inl ⟨by rfl, ?_⟩) (by assumption) ?_
  rotate_left 1
  · intro w hSw; (try dsimp only at hSw); go_simp; (with_reducible rfl)
  simp only [Act.put, List.getElem_toArray, List.getElem_cons_zero, List.getElem_cons_succ, List.setIfInBounds_toArray, List.set_cons_zero, List.set_cons_succ]
  refine wpAnyH_take1 (i := 22) (oi := _) (v := ?_) (by kernel_rfl) rfl (by kernel_rfl) (fun _ _ _ h => h) (Or.inl ⟨by rfl, ?_⟩) (by assumption) ?_
  rotate_left 1
  · intro w hSw; (try dsimp only at hSw); go_simp; (with_reducible rfl)
  simp only [Act.put, List.getElem_toArray, List.getElem_cons_zero, List.getElem_cons_succ, List.setIfInBounds_toArray, List.set_cons_zero, List.set_cons_succ]
  refine wpAnyH_take1 (i := 23) (oi := _) (v := ?_) (by kernel_rfl) rfl (by kernel_rfl) (fun _ _ _ h => h) (Or.inl ⟨by rfl, ?_⟩) (by assumption) ?_
  rotate_left 1
  · intro w hSw; (try dsimp only at hSw); go_simp; (with_reducible rfl)
  simp only [Act.put, List.getElem_toArray, List.getElem_cons_zero, List.getElem_cons_succ, List.setIfInBounds_toArray, List.set_cons_zero, List.set_cons_succ]
  refine wpAnyH_take1 (i := 25) (oi := _) (v := ?_) (by kernel_rfl) rfl (by kernel_rfl) (fun _ _ _ h => h) (Or.inl ⟨by rfl, ?_⟩) (by assumption) ?_
  rotate_left 1
  · intro w hSw; (try dsimp only at hSw); go_simp; (with_reducible rfl)
  simp only [Act.put, List.getElem_toArray, List.getElem_cons_zero, List.getElem_cons_succ, List.setIfInBounds_toArray, List.set_cons_zero, List.set_cons_succ]
  refine wpAnyH_one (i := 24) (by kernel_rfl) rfl (by rfl) fun K hK => ?_
  go_simp
  refine (red_pb HDo.out (P2_8.out.at Seq.way)).mono ?_
  rintro e wq5 ⟨vq5, rfl, hq5, hp5⟩
  have HQ5 := below_step hq5 (Seq.way : Below w8.heap.size w8 _)
  have zq5 := HQ5.size
  (try dsimp only)
  clear hHeld
  refine hK.out _ _ (Hkeep Seq.way).out fun hHeld => ?_
  clear hK K
  (try simp only [Act.put, List.getElem_toArray, List.getElem_cons_zero, List.getElem_cons_succ, List.setIfInBounds_toArray, List.set_cons_zero, List.set_cons_succ])
  refine wpAnyH_one (i := 26) (by kernel_rfl) rfl (by rfl) fun K hK => ?_
  go_simp
  refine (same_eq (ProgV.at hp5 Seq.way) (P2_8.out.at Seq.way)).mono ?_
  rintro e wq6 ⟨rfl, hq6⟩
  have HQ6 := below_step hq6 (Seq.way : Below w8.heap.size w8 _)
  have zq6 := HQ6.size
  (try dsimp only)
  clear hHeld
  refine hK.out _ _ (Hkeep Seq.way).out fun hHeld => ?_
  clear hK K
  (try simp only [Act.put, List.getElem_toArray, List.getElem_cons_zero, List.getElem_cons_succ, List.setIfInBounds_toArray, List.set_cons_zero, List.set_cons_succ])
  refine wpAnyH_take1 (i := 27) (oi := _) (v := ?_) (by kernel_rfl) rfl (by kernel_rfl) (fun _ _ _ h => h) (Or.inl ⟨by rfl, ?_⟩) (by assumption) ?_
  rotate_left 1
  · intro w hSw; (try dsimp only at hSw); go_simp; (with_reducible rfl)
  simp only [Act.put, List.getElem_toArray, List.getElem_cons_zero, List.getElem_cons_succ, List.setIfInBounds_toArray, List.set_cons_zero, List.set_cons_succ]
  refine wpAnyH_take1 (i := 28) (oi := _) (v := ?_) (by kernel_rfl) rfl (by kernel_rfl) (fun _ _ _ h => h) (Or.inl ⟨by rfl, ?_⟩) (by assumption) ?_
  rotate_left 1
  · intro w hSw; (try dsimp only at hSw); go_simp; (with_reducible rfl)
  simp only [Act.put, List.getElem_toArray, List.getElem_cons_zero, List.getElem_cons_succ, List.setIfInBounds_toArray, List.set_cons_zero, List.set_cons_succ]
  refine wpAnyH_take1 (i := 29) (oi := _) (v := ?_) (by kernel_rfl) rfl (by kernel_rfl) (fun _ _ _ h => h) (Or.inl ⟨by rfl, ?_⟩) (by assumption) ?_
  rotate_left 1
  · intro w hSw; (try dsimp only at hSw); go_simp; (with_reducible rfl)
  simp only [Act.put, List.getElem_toArray, List.getElem_cons_zero, List.getElem_cons_succ, List.setIfInBounds_toArray, List.set_cons_zero, List.set_cons_succ]
  refine wpAnyH_one (i := 30) (by kernel_rfl) rfl (by rfl) fun K hK => ?_
  go_simp
  refine (can_pb (P2_8.out.at Seq.way)).mono ?_
  rintro e wq7 ⟨_, rfl, hq7, ca7, cc7, rfl⟩
  have HQ7 := below_step hq7 (Seq.way : Below w8.heap.size w8 _)
  have zq7 := HQ7.size
  (try dsimp only)
  clear hHeld
  refine hK.out _ _ (Hkeep Seq.way).out fun hHeld => ?_
  clear hK K
  (try simp only [Act.put, List.getElem_toArray, List.getElem_cons_zero, List.getElem_cons_succ, List.setIfInBounds_toArray, List.set_cons_zero, List.set_cons_succ])
  refine wpAnyH_take1 (i := 31) (oi := _) (v := ?_) (by kernel_rfl) rfl (by kernel_rfl) (fun _ _ _ h => h) (Or.inl ⟨by rfl, ?_⟩) (by assumption) ?_
  rotate_left 1
  · intro w hSw; (try dsimp only at hSw); go_simp; (with_reducible rfl)
  simp only [Act.put, List.getElem_toArray, List.getElem_cons_zero, List.getElem_cons_succ, List.setIfInBounds_toArray, List.set_cons_zero, List.set_cons_succ]
  refine wpAnyH_take1 (i := 32) (oi := _) (v := ?_) (by kernel_rfl) rfl (by kernel_rfl) (fun _ _ _ h => h) (Or.inl ⟨by rfl, ?_⟩) (by assumption) ?_
  rotate_left 1
  · intro w hSw; (try dsimp only at hSw); go_simp; (with_reducible rfl)
  simp only [Act.put, List.getElem_toArray, List.getElem_cons_zero, List.getElem_cons_succ, List.setIfInBounds_toArray, List.set_cons_zero, List.set_cons_succ]
  refine wpAnyH_take1 (i := 33) (oi := _) (v := ?_) (by kernel_rfl) rfl (by kernel_rfl) (fun _ _ _ h => h) (Or.inl ⟨by rfl, ?_⟩) (by assumption) ?_
  rotate_left 1
  · intro w hSw; (try dsimp only at hSw); go_simp; (with_reducible rfl)
  simp only [Act.put, List.getElem_toArray, List.getElem_cons_zero, List.getElem_cons_succ, List.setIfInBounds_toArray, List.set_cons_zero, List.set_cons_succ]
  refine wpAnyH_take1 (i := 34) (oi := _) (v := ?_) (by kernel_rfl) rfl (by kernel_rfl) (fun _ _ _ h => h) (Or.inl ⟨by rfl, ?_⟩) (by assumption) ?_
  rotate_left 1
  · intro w hSw; (try dsimp only at hSw); go_simp; (with_reducible rfl)
  simp only [Act.put, List.getElem_toArray, List.getElem_cons_zero, List.getElem_cons_succ, List.setIfInBounds_toArray, List.set_cons_zero, List.set_cons_succ]
  refine wpAnyH_take1 (i := 35) (oi := _) (v := ?_) (by kernel_rfl) rfl (by kernel_rfl) (fun _ _ _ h => h) (Or.inl ⟨by rfl, ?_⟩) (by assumption) ?_
  rotate_left 1
  · intro w hSw; (try dsimp only at hSw); go_simp; (with_reducible rfl)
  simp only [Act.put, List.getElem_toArray, List.getElem_cons_zero, List.getElem_cons_succ, List.setIfInBounds_toArray, List.set_cons_zero, List.set_cons_succ]
  clear hHeld
  refine wpAnyH_two (i := 36) (j := 37) (di := 86) (dj := 87) (by kernel_rfl) (by kernel_rfl) (by kernel_rfl) (by decide) rfl rfl (by decide) (by rfl) (by rfl) (fun _ => by rfl) (fun _ => by rfl)
    (fun v w' => Below w8.heap.size w8 w' ∧ Seq intE (fun _ => True) w' v [1, 1]) (fun u w' => Below w8.heap.size w8 w' ∧ ∃ B, u = .slice (some ⟨B, 0, none⟩) 2 2 ∧ Row 3 w' B [.int .i64 1, .int .i64 1]) (fun v u w' => Below w8.heap.size w8 w' ∧ Seq intE (fun _ => True) w' v [1, 1] ∧ ∃ B, u = .slice (some ⟨B, 0, none⟩) 2 2 ∧ Row 3 w' B [.int .i64 1, .int .i64 1]) ?_ ?_ ?_ ?_ ?_
  · intro K hK
    simp only [Act.put, List.setIfInBounds_toArray, List.set_cons_zero, List.set_cons_succ] at hK
    go_simp
    refine (truth_pb (P2_8.out.at Seq.way)).mono ?_
    rintro e w1 ⟨v, rfl, hb, hp⟩
    have HB := below_step hb (Seq.way : Below w8.heap.size w8 _)
    exact hK.out _ _ (Hkeep HB).out ⟨HB, hp⟩
  · rintro v w1 ⟨HB, hp⟩ K hK
    have z1 := HB.size
    simp only [Act.put, List.setIfInBounds_toArray, List.set_cons_zero, List.set_cons_succ] at hK
    simp only [Act.put, List.getElem_toArray, List.getElem_cons_zero, List.getElem_cons_succ, List.setIfInBounds_toArray, List.set_cons_zero, List.set_cons_succ]
    go_simp
    exact hK.out _ _ (Hkeep Seq.way).out ⟨Seq.way, hp.to, _, rfl, Row.new _ _ _ rfl⟩
  · intro K hK
    simp only [Act.put, List.setIfInBounds_toArray, List.set_cons_zero, List.set_cons_succ] at hK
    go_simp
    exact hK.out _ _ (Hkeep Seq.way).out ⟨Seq.way, _, rfl, Row.new _ _ _ rfl⟩
  · rintro u w1 ⟨HB, B, rfl, hR⟩ K hK
    have z1 := HB.size
    simp only [Act.put, List.setIfInBounds_toArray, List.set_cons_zero, List.set_cons_succ] at hK
    simp only [Act.put, List.getElem_toArray, List.getElem_cons_zero, List.getElem_cons_succ, List.setIfInBounds_toArray, List.set_cons_zero, List.set_cons_succ]
    go_simp
    refine (truth_pb (P2_8.out.at Seq.way)).mono ?_
    rintro e w2 ⟨v, rfl, hb, hp⟩
    have HB' := below_step hb HB
    exact hK.out _ _ (Hkeep HB').out ⟨HB', hp, _, rfl, row_to hR hb⟩
  rintro v8 _ wt8 hHeld ⟨HQ8, hp8, B8, rfl, hR8⟩
  have zq8 := HQ8.size
  simp only [Act.put, List.setIfInBounds_toArray, List.set_cons_zero, List.set_cons_succ]
  refine wpAnyH_one (i := 38) (by kernel_rfl) rfl (by rfl) fun K hK => ?_
  go_simp
  refine (ints_eq (hp8.to) (seq2I i1 i1 hR8)).mono ?_
  rintro e wq9 ⟨rfl, hq9⟩
  have HQ9 := below_step hq9 (Seq.way : Below w8.heap.size w8 _)
  have zq9 := HQ9.size
  (try dsimp only)
  clear hHeld
  refine hK.out _ _ (Hkeep Seq.way).out fun hHeld => ?_
  clear hK K
  (try simp only [Act.put, List.getElem_toArray, List.getElem_cons_zero, List.getElem_cons_succ, List.setIfInBounds_toArray, List.set_cons_zero, List.set_cons_succ])
  refine wpAnyH_take1 (i := 39) (oi := _) (v := ?_) (by kernel_rfl) rfl (by kernel_rfl) (fun _ _ _ h => h) (Or.inl ⟨by rfl, ?_⟩) (by assumption) ?_
  rotate_left 1
  · intro w hSw; (try dsimp only at hSw); go_simp; (with_reducible rfl)
  simp only [Act.put, List.getElem_toArray, List.getElem_cons_zero, List.getElem_cons_succ, List.setIfInBounds_toArray, List.set_cons_zero, List.set_cons_succ]
  refine wpAnyH_take1 (i := 40) (oi := _) (v := ?_) (by kernel_rfl) rfl (by kernel_rfl) (fun _ _ _ h => h) (Or.inl ⟨by rfl, ?_⟩) (by assumption) ?_
  rotate_left 1
  · intro w hSw; (try dsimp only at hSw); go_simp; (with_reducible rfl)
  simp only [Act.put, List.getElem_toArray, List.getElem_cons_zero, List.getElem_cons_succ, List.setIfInBounds_toArray, List.set_cons_zero, List.set_cons_succ]
  refine wpAnyH_take1 (i := 41) (oi := _) (v := ?_) (by kernel_rfl) rfl (by kernel_rfl) (fun _ _ _ h => h) (Or.inl ⟨by rfl, ?_⟩) (by assumption) ?_
  rotate_left 1
  · intro w hSw; (try dsimp only at hSw); go_simp; (with_reducible rfl)
  simp only [Act.put, List.getElem_toArray, List.getElem_cons_zero, List.getElem_cons_succ, List.setIfInBounds_toArray, List.set_cons_zero, List.set_cons_succ]
  refine wpAnyH_take1 (i := 42) (oi := _) (v := ?_) (by kernel_rfl) rfl (by kernel_rfl) (fun _ _ _ h => h) (Or.inl ⟨by rfl, ?_⟩) (by assumption) ?_
  rotate_left 1
  · intro w hSw; (try dsimp only at hSw); go_simp; (with_reducible rfl)
  simp only [Act.put, List.getElem_toArray, List.getElem_cons_zero, List.getElem_cons_succ, List.setIfInBounds_toArray, List.set_cons_zero, List.set_cons_succ]
  refine wpAnyH_take1 (i := 43) (oi := _) (v := ?_) (by kernel_rfl) rfl (by kernel_rfl) (fun _ _ _ h => h) (Or.inl ⟨by rfl, ?_⟩) (by assumption) ?_
  rotate_left 1
  · intro w hSw; (try dsimp only at hSw); go_simp; (with_reducible rfl)
  simp only [Act.put, List.getElem_toArray, List.getElem_cons_zero, List.getElem_cons_succ, List.setIfInBounds_toArray, List.set_cons_zero, List.set_cons_succ]
  refine wpAnyH_take1 (i := 44) (oi := _) (v := ?_) (by kernel_rfl) rfl (by kernel_rfl) (fun _ _ _ h => h) (Or.inl ⟨by rfl, ?_⟩) (by assumption) ?_
  rotate_left 1
  · intro w hSw; (try dsimp only at hSw); go_simp; (with_reducible rfl)
  simp only [Act.put, List.getElem_toArray, List.getElem_cons_zero, List.getElem_cons_succ, List.setIfInBounds_toArray, List.set_cons_zero, List.set_cons_succ]
  refine wpAnyH_take1 (i := 45) (oi := _) (v := ?_) (by kernel_rfl) rfl (by kernel_rfl) (fun _ _ _ h => h) (Or.inl ⟨by rfl, ?_⟩) (by assumption) ?_
  rotate_left 1
  · intro w hSw; (try dsimp only at hSw); go_simp; (with_reducible rfl)
  simp only [Act.put, List.getElem_toArray, List.getElem_cons_zero, List.getElem_cons_succ, List.setIfInBounds_toArray, List.set_cons_zero, List.set_cons_succ]
  refine wpAnyH_take1 (i := 46) (oi := _) (v := ?_) (by kernel_rfl) rfl (by kernel_rfl) (fun _ _ _ h => h) (Or.inl ⟨by rfl, ?_⟩) (by assumption) ?_
  rotate_left 1
  · intro w hSw; (try dsimp only at hSw); go_simp; (with_reducible rfl)
  simp only [Act.put, List.getElem_toArray, List.getElem_cons_zero, List.getElem_cons_succ, List.setIfInBounds_toArray, List.set_cons_zero, List.set_cons_succ]
  refine wpAnyH_take1 (i := 47) (oi := _) (v := ?_) (by kernel_rfl) rfl (by kernel_rfl) (fun _ _ _ h => h) (Or.inl ⟨by rfl, ?_⟩) (by assumption) ?_
  rotate_left 1
  · intro w hSw; (try dsimp only at hSw); go_simp; (with_reducible rfl)
  simp only [Act.put, List.getElem_toArray, List.getElem_cons_zero, List.getElem_cons_succ, List.setIfInBounds_toArray, List.set_cons_zero, List.set_cons_succ]
  refine wpAnyH_take1 (i := 48) (oi := _) (v := ?_) (by kernel_rfl) rfl (by kernel_rfl) (fun _ _ _ h => h) (Or.inl ⟨by rfl, ?_⟩) (by assumption) ?_
  rotate_left 1
  · intro w hSw; (try dsimp only at hSw); go_simp; (with_reducible rfl)
  simp only [Act.put, List.getElem_toArray, List.getElem_cons_zero, List.getElem_cons_succ, List.setIfInBounds_toArray, List.set_cons_zero, List.set_cons_succ]
  refine wpAnyH_take1 (i := 49) (oi := _) (v := ?_) (by kernel_rfl) rfl (by kernel_rfl) (fun _ _ _ h => h) (Or.inl ⟨by rfl, ?_⟩) (by assumption) ?_
  rotate_left 1
  · intro w hSw; (try dsimp only at hSw); go_simp; (with_reducible rfl)
  simp only [Act.put, List.getElem_toArray, List.getElem_cons_zero, List.getElem_cons_succ, List.setIfInBounds_toArray, List.set_cons_zero, List.set_cons_succ]
  refine wpAnyH_take1 (i := 50) (oi := _) (v := ?_) (by kernel_rfl) rfl (by kernel_rfl) (fun _ _ _ h => h) (Or.inl ⟨by rfl, ?_⟩) (by assumption) ?_
  rotate_left 1
  · intro w hSw; (try dsimp only at hSw); go_simp; (with_reducible rfl)
  simp only [Act.put, List.getElem_toArray, List.getElem_cons_zero, List.getElem_cons_succ, List.setIfInBounds_toArray, List.set_cons_zero, List.set_cons_succ]
  refine wpAnyH_take1 (i := 51) (oi := _) (v := ?_) (by kernel_rfl) rfl (by kernel_rfl) (fun _ _ _ h => h) (Or.inl ⟨by rfl, ?_⟩) (by assumption) ?_
  rotate_left 1
  · intro w hSw; (try dsimp only at hSw); go_simp; (with_reducible rfl)
  simp only [Act.put, List.getElem_toArray, List.getElem_cons_zero, List.getElem_cons_succ, List.setIfInBounds_toArray, List.set_cons_zero, List.set_cons_succ]
  refine wpAnyH_take1 (i := 52) (oi := _) (v := ?_) (by kernel_rfl) rfl (by kernel_rfl) (fun _ _ _ h => h) (Or.inl ⟨by rfl, ?_⟩) (by assumption) ?_
  rotate_left 1
  · intro w hSw; (try dsimp only at hSw); go_simp; (with_reducible rfl)
  simp only [Act.put, List.getElem_toArray, List.getElem_cons_zero, List.getElem_cons_succ, List.setIfInBounds_toArray, List.set_cons_zero, List.set_cons_succ]
  refine wpAnyH_take1 (i := 53) (oi := _) (v := ?_) (by kernel_rfl) rfl (by kernel_rfl) (fun _ _ _ h => h) (Or.inl ⟨by rfl, ?_⟩) (by assumption) ?_
  rotate_left 1
  · intro w hSw; (try dsimp only at hSw); go_simp; (with_reducible rfl)
  simp only [Act.put, List.getElem_toArray, List.getElem_cons_zero, List.getElem_cons_succ, List.setIfInBounds_toArray, List.set_cons_zero, List.set_cons_succ]
  refine wpAnyH_take1 (i := 54) (oi := _) (v := ?_) (by kernel_rfl) rfl (by kernel_rfl) (fun _ _ _ h => h) (Or.inl ⟨by rfl, ?_⟩) (by assumption) ?_
  rotate_left 1
  · intro w hSw; (try dsimp only at hSw); go_simp; (with_reducible rfl)
  simp only [Act.put, List.getElem_toArray, List.getElem_cons_zero, List.getElem_cons_succ, List.setIfInBounds_toArray, List.set_cons_zero, List.set_cons_succ]
  refine wpAnyH_one (i := 55) (by kernel_rfl) rfl (by rfl) fun K hK => ?_
  go_simp
  clear hHeld
  refine hK.out _ _ (Hkeep Seq.way).out fun hHeld => ?_
  clear hK K
  (try simp only [Act.put, List.getElem_toArray, List.getElem_cons_zero, List.getElem_cons_succ, List.setIfInBounds_toArray, List.set_cons_zero, List.set_cons_succ])
  refine wpAnyH_one (i := 56) (by kernel_rfl) rfl (by rfl) fun K hK => ?_
  go_simp
  refine (Made_spec (S := fun _ => True) (n := 1) (l := [⟨1, [], []⟩]) (seq1R trivial (by first | exact Row.new _ _ _ rfl | exact Row.drewE (Row.new _ _ _ rfl)) i1 (Seq.nil _ _ _) (Seq.nil _ _ _)) (by omega)).mono ?_
  rintro e wq10 ⟨vq10, rfl, hq10, hp10⟩
  replace hp10 : ProgV (fun _ => True) wq10 vq10 py := hp10.any
  have HQ10 := below_step hq10 (Seq.way : Below w8.heap.size w8 _)
  have zq10 := HQ10.size
  (try dsimp only)
  clear hHeld
  refine hK.out _ _ (Hkeep Seq.way).out fun hHeld => ?_
  clear hK K
  (try simp only [Act.put, List.getElem_toArray, List.getElem_cons_zero, List.getElem_cons_succ, List.setIfInBounds_toArray, List.set_cons_zero, List.set_cons_succ])
  refine wpAnyH_one (i := 57) (by kernel_rfl) rfl (by rfl) fun K hK => ?_
  go_simp
  refine (same_eq (P10_8.out.at Seq.way) (ProgV.at hp10 Seq.way)).mono ?_
  rintro e wq11 ⟨rfl, hq11⟩
  have HQ11 := below_step hq11 (Seq.way : Below w8.heap.size w8 _)
  have zq11 := HQ11.size
  (try dsimp only)
  clear hHeld
  refine hK.out _ _ (Hkeep Seq.way).out fun hHeld => ?_
  clear hK K
  (try simp only [Act.put, List.getElem_toArray, List.getElem_cons_zero, List.getElem_cons_succ, List.setIfInBounds_toArray, List.set_cons_zero, List.set_cons_succ])
  refine wpAnyH_take1 (i := 58) (oi := _) (v := ?_) (by kernel_rfl) rfl (by kernel_rfl) (fun _ _ _ h => h) (Or.inl ⟨by rfl, ?_⟩) (by assumption) ?_
  rotate_left 1
  · intro w hSw; (try dsimp only at hSw); go_simp; (with_reducible rfl)
  simp only [Act.put, List.getElem_toArray, List.getElem_cons_zero, List.getElem_cons_succ, List.setIfInBounds_toArray, List.set_cons_zero, List.set_cons_succ]
  refine wpAnyH_take1 (i := 59) (oi := _) (v := ?_) (by kernel_rfl) rfl (by kernel_rfl) (fun _ _ _ h => h) (Or.inl ⟨by rfl, ?_⟩) (by assumption) ?_
  rotate_left 1
  · intro w hSw; (try dsimp only at hSw); go_simp; (with_reducible rfl)
  simp only [Act.put, List.getElem_toArray, List.getElem_cons_zero, List.getElem_cons_succ, List.setIfInBounds_toArray, List.set_cons_zero, List.set_cons_succ]
  refine wpAnyH_take1 (i := 60) (oi := _) (v := ?_) (by kernel_rfl) rfl (by kernel_rfl) (fun _ _ _ h => h) (Or.inl ⟨by rfl, ?_⟩) (by assumption) ?_
  rotate_left 1
  · intro w hSw; (try dsimp only at hSw); go_simp; (with_reducible rfl)
  simp only [Act.put, List.getElem_toArray, List.getElem_cons_zero, List.getElem_cons_succ, List.setIfInBounds_toArray, List.set_cons_zero, List.set_cons_succ]
  clear hHeld
  refine wpAnyH_two (i := 61) (j := 62) (di := 111) (dj := 112) (by kernel_rfl) (by kernel_rfl) (by kernel_rfl) (by decide) rfl rfl (by decide) (by rfl) (by rfl) (fun _ => by rfl) (fun _ => by rfl)
    (fun v w' => Below w8.heap.size w8 w' ∧ Seq intE (fun _ => True) w' v [0, 2]) (fun u w' => Below w8.heap.size w8 w' ∧ ∃ B, u = .slice (some ⟨B, 0, none⟩) 2 2 ∧ Row 3 w' B [.int .i64 0, .int .i64 2]) (fun v u w' => Below w8.heap.size w8 w' ∧ Seq intE (fun _ => True) w' v [0, 2] ∧ ∃ B, u = .slice (some ⟨B, 0, none⟩) 2 2 ∧ Row 3 w' B [.int .i64 0, .int .i64 2]) ?_ ?_ ?_ ?_ ?_
  · intro K hK
    simp only [Act.put, List.setIfInBounds_toArray, List.set_cons_zero, List.set_cons_succ] at hK
    go_simp
    refine (truth_py (P10_8.out.at Seq.way)).mono ?_
    rintro e w1 ⟨v, rfl, hb, hp⟩
    have HB := below_step hb (Seq.way : Below w8.heap.size w8 _)
    exact hK.out _ _ (Hkeep HB).out ⟨HB, hp⟩
  · rintro v w1 ⟨HB, hp⟩ K hK
    have z1 := HB.size
    simp only [Act.put, List.setIfInBounds_toArray, List.set_cons_zero, List.set_cons_succ] at hK
    simp only [Act.put, List.getElem_toArray, List.getElem_cons_zero, List.getElem_cons_succ, List.setIfInBounds_toArray, List.set_cons_zero, List.set_cons_succ]
    go_simp
    exact hK.out _ _ (Hkeep Seq.way).out ⟨Seq.way, hp.to, _, rfl, Row.new _ _ _ rfl⟩
  · intro K hK
    simp only [Act.put, List.setIfInBounds_toArray, List.set_cons_zero, List.set_cons_succ] at hK
    go_simp
    exact hK.out _ _ (Hkeep Seq.way).out ⟨Seq.way, _, rfl, Row.new _ _ _ rfl⟩
  · rintro u w1 ⟨HB, B, rfl, hR⟩ K hK
    have z1 := HB.size
    simp only [Act.put, List.setIfInBounds_toArray, List.set_cons_zero, List.set_cons_succ] at hK
    simp only [Act.put, List.getElem_toArray, List.getElem_cons_zero, List.getElem_cons_succ, List.setIfInBounds_toArray, List.set_cons_zero, List.set_cons_succ]
    go_simp
    refine (truth_py (P10_8.out.at Seq.way)).mono ?_
    rintro e w2 ⟨v, rfl, hb, hp⟩
    have HB' := below_step hb HB
    exact hK.out _ _ (Hkeep HB').out ⟨HB', hp, _, rfl, row_to hR hb⟩
  rintro v12 _ wt12 hHeld ⟨HQ12, hp12, B12, rfl, hR12⟩
  have zq12 := HQ12.size
  simp only [Act.put, List.setIfInBounds_toArray, List.set_cons_zero, List.set_cons_succ]
  refine wpAnyH_one (i := 63) (by kernel_rfl) rfl (by rfl) fun K hK => ?_
  go_simp
  refine (ints_eq (hp12.to) (seq2I i0 i2 hR12)).mono ?_
  rintro e wq13 ⟨rfl, hq13⟩
  have HQ13 := below_step hq13 (Seq.way : Below w8.heap.size w8 _)
  have zq13 := HQ13.size
  (try dsimp only)
  clear hHeld
  refine hK.out _ _ (Hkeep Seq.way).out fun hHeld => ?_
  clear hK K
  (try simp only [Act.put, List.getElem_toArray, List.getElem_cons_zero, List.getElem_cons_succ, List.setIfInBounds_toArray, List.set_cons_zero, List.set_cons_succ])
  refine wpAnyH_take1 (i := 64) (oi := _) (v := ?_) (by kernel_rfl) rfl (by kernel_rfl) (fun _ _ _ h => h) (Or.inl ⟨by rfl, ?_⟩) (by assumption) ?_
  rotate_left 1
  · intro w hSw; (try dsimp only at hSw); go_simp; (with_reducible rfl)
  simp only [Act.put, List.getElem_toArray, List.getElem_cons_zero, List.getElem_cons_succ, List.setIfInBounds_toArray, List.set_cons_zero, List.set_cons_succ]
  refine wpAnyH_one (i := 65) (by kernel_rfl) rfl (by rfl) fun K hK => ?_
  go_simp
  clear hHeld
  refine hK.out _ _ (Hkeep Seq.way).out fun hHeld => ?_
  clear hK K
  (try simp only [Act.put, List.getElem_toArray, List.getElem_cons_zero, List.getElem_cons_succ, List.setIfInBounds_toArray, List.set_cons_zero, List.set_cons_succ])
  refine wpAnyH_done (by kernel_rfl) ?_ _
  refine NoPanic.normal ?_
  go_wp2_with fail
  refine bodyPost_ret (v := .bool true) (by simp [results, Try.results10, go_sem]) rfl ⟨rfl, HM'.out.bel.trans (HQ13.mono HM'.out.bel.size)⟩
end Go.Proofs.Ytdbennmbbmoflaa
