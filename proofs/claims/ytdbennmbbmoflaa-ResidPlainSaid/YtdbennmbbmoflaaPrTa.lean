/-
  Layer 18: two calls that give a program each, both put into new blocks, in one statement that draws its order: by an invariant.
-/
import Derived.Test.YtdbennmbbmoflaaPrR
import Derived.Test.YtdbennmbbmoflaaRun
namespace Go.Proofs.Ytdbennmbbmoflaa
open Go Go.RowKit

theorem rowTo {T : TypeId} {W w' : World} {B : Nat} {vs : List Value} (h : Row T W B vs) (hb : Below W.heap.size W w') : Row T w' B vs := h.below hb h.lt

/-- What each simplification keeps holds behind all of them. -/
theorem reduceGo_ind {P : Prog → Prop} (order : List Int) (hs : ∀ g s, P g → s ∈ canL g → P (doL g s).1) : ∀ (f i : Nat) (g : Prog), P g → P (reduceGo order f i g)
  | 0, _, _, h => h
  | f + 1, i, g, h => by
    unfold reduceGo
    split
    · exact h
    · next hc => exact reduceGo_ind order hs f (i + 1) _ (hs _ _ h (stepL_mem g order i hc))
theorem reduceL_fine {g : Prog} {order : List Int} (h : FineP g) : FineP (reduceL g order) := reduceGo_ind order (fun _ _ h hs => doL_fine h hs) _ _ _ h

def readyOK2 (ops : Array Oper) (fl : Bool → Bool → Bool → Bool → Array Bool) (i1 i2 ia ib : Nat) : Bool :=
  [false, true].all fun x => [false, true].all fun y => [false, true].all fun a => [false, true].all fun b =>
    imp (imp y x && !(x && y && a && b))
      (!(Region.ready .any ops (fl x y a b)).isEmpty && (Region.ready .any ops (fl x y a b)).all fun i => (i == i1 && !x) || (i == i2 && x && !y) || (i == ia && !a) || (i == ib && !b))

theorem readyOK2_spec {ops : Array Oper} {fl : Bool → Bool → Bool → Bool → Array Bool} {i1 i2 ia ib : Nat} (h : readyOK2 ops fl i1 i2 ia ib = true) {x y a b : Bool} (hy : y = true → x = true) (hn : (x && y && a && b) = false) :
    Region.ready .any ops (fl x y a b) ≠ [] ∧ ∀ i, i ∈ Region.ready .any ops (fl x y a b) →
      (i = i1 ∧ x = false) ∨ (i = i2 ∧ x = true ∧ y = false) ∨ (i = ia ∧ a = false) ∨ (i = ib ∧ b = false) := by
  unfold readyOK2 at h
  have hm : ∀ b : Bool, b ∈ [false, true] := by decide
  have h1 := List.all_eq_true.1 (List.all_eq_true.1 (List.all_eq_true.1 (List.all_eq_true.1 h x (hm x)) y (hm y)) a (hm a)) b (hm b)
  have h2 : (imp y x && !(x && y && a && b)) = true := by
    rw [hn]
    revert hy
    cases x <;> cases y <;> simp [imp]
  rw [h2] at h1
  simp only [imp, Bool.not_true, Bool.false_or, Bool.and_eq_true, List.all_eq_true] at h1
  refine ⟨fun h0 => ?_, fun i hi => ?_⟩
  · rw [h0] at h1; exact absurd h1.1 (by simp)
  · have := h1.2 i hi
    simp only [Bool.or_eq_true, Bool.and_eq_true, beq_iff_eq, Bool.not_eq_true'] at this
    rcases this with ((h | h) | h) | h
    · exact .inl h
    · exact .inr (.inl ⟨h.1.1, h.1.2, h.2⟩)
    · exact .inr (.inr (.inl h))
    · exact .inr (.inr (.inr h))

theorem region_2c2a {P : Program} {ops : Array Oper} {Q : Exit → Act → World → Prop} {S : World → Prop} (I : Bool → Bool → Bool → Bool → Act → World → Prop) (fl : Bool → Bool → Bool → Bool → Array Bool) (i1 i2 ia ib : Nat)
    (hok : readyOK2 ops fl i1 i2 ia ib = true)
    (hs1 : ∀ a b, (fl false false a b).setIfInBounds i1 true = fl true false a b) (hs2 : ∀ a b, (fl true false a b).setIfInBounds i2 true = fl true true a b)
    (hsa : ∀ x y b, (fl x y false b).setIfInBounds ia true = fl x y true b) (hsb : ∀ x y a, (fl x y a false).setIfInBounds ib true = fl x y a true)
    (hS : ∀ x y a b A w, I x y a b A w → S w)
    (h1 : ∀ a b A w, I false false a b A w → wpOp P ops Q i1 (I true false a b) A w)
    (h2 : ∀ a b A w, I true false a b A w → wpOp P ops Q i2 (I true true a b) A w)
    (ha : ∀ x y b A w, I x y false b A w → wpOp P ops Q ia (I x y true b) A w)
    (hb : ∀ x y a A w, I x y a false A w → wpOp P ops Q ib (I x y a true) A w)
    (hend : ∀ A w, I true true true true A w → ∀ fuel, (unlisted ops (fl true true true true)).length ≤ fuel → wpAnyH P .any ops Q S fuel (fl true true true true) A w)
    {A : Act} {w : World} (h0 : I false false false false A w) {fuel : Nat} {listed : Array Bool} (hl : listed = fl false false false false) (hf : (unlisted ops (fl false false false false)).length ≤ fuel) :
    wpAnyH P .any ops Q S fuel listed A w := by
  subst hl
  refine wpAnyH_until (Inv := fun listed A w => ∃ x y a b, listed = fl x y a b ∧ (y = true → x = true) ∧ I x y a b A w)
    (fun listed A w ⟨x, y, a, b, _, _, h⟩ => hS _ _ _ _ _ _ h) ?_ fuel _ A w hf ⟨false, false, false, false, rfl, by simp, h0⟩
  rintro listed A w ⟨x, y, a, b, rfl, hy, h⟩
  cases hn : (x && y && a && b)
  · right
    obtain ⟨hne, hm⟩ := readyOK2_spec hok hy hn
    refine ⟨hne, fun i hi => ?_⟩
    rcases hm i hi with ⟨rfl, rfl⟩ | ⟨rfl, rfl, rfl⟩ | ⟨rfl, rfl⟩ | ⟨rfl, rfl⟩
    · have e1 : y = false := by cases y <;> simp_all
      subst e1
      rw [hs1]
      exact wpOp_mono (fun A w h => ⟨_, _, _, _, rfl, by simp, h⟩) (h1 _ _ _ _ h)
    · rw [hs2]
      exact wpOp_mono (fun A w h => ⟨_, _, _, _, rfl, by simp, h⟩) (h2 _ _ _ _ h)
    · rw [hsa]
      exact wpOp_mono (fun A w h => ⟨_, _, _, _, rfl, hy, h⟩) (ha _ _ _ _ _ h)
    · rw [hsb]
      exact wpOp_mono (fun A w h => ⟨_, _, _, _, rfl, hy, h⟩) (hb _ _ _ _ _ h)
  · left
    simp only [Bool.and_eq_true] at hn
    obtain ⟨⟨⟨rfl, rfl⟩, rfl⟩, rfl⟩ := hn
    exact hend _ _ h

/-! ### What holds -/
def zP : List Value := [.slice none 0 0, .slice none 0 0]
structure Inv2 (W0 : World) (g1 g2 : Prog) (x y a b : Bool) (v1 v2 sa sb : Value) (w : World) : Prop where
  bel : Below W0.heap.size W0 w
  c1 : x = true → ProgV (fun k => NoB a sa k ∧ NoB b sb k) w v1 g1
  c2 : y = true → ProgV (fun k => NoB a sa k ∧ NoB b sb k) w v2 g2
  ra : a = true → ∃ B, sa = .pointer (some ⟨B, 0, none⟩) ∧ W0.heap.size ≤ B ∧ Row 30 w B zP
  rb : b = true → ∃ B, sb = .pointer (some ⟨B, 0, none⟩) ∧ W0.heap.size ≤ B ∧ Row 30 w B zP
  ne : a = true → b = true → sa ≠ sb

section
variable {W0 : World} {g1 g2 : Prog} {x y a b : Bool} {v1 v2 sa sb : Value} {w w' : World}
theorem Inv2.keep (h : Inv2 W0 g1 g2 x y a b v1 v2 sa sb w) (hb : Below w.heap.size w w') : Inv2 W0 g1 g2 x y a b v1 v2 sa sb w' where
  bel := below_step hb h.bel
  c1 e := (h.c1 e).at hb
  c2 e := (h.c2 e).at hb
  ra e := let ⟨B, h1, h2, h3⟩ := h.ra e; ⟨B, h1, h2, h3.below hb h3.lt⟩
  rb e := let ⟨B, h1, h2, h3⟩ := h.rb e; ⟨B, h1, h2, h3.below hb h3.lt⟩
  ne := h.ne
theorem Inv2.newA (h : Inv2 W0 g1 g2 x y false b v1 v2 sa sb w) : Inv2 W0 g1 g2 x y true b v1 v2 (.pointer (some ⟨w.heap.size, 0, none⟩)) sb (w.alloc (.cells #[.slice none 0 0, .slice none 0 0] 30)) := by
  have hb : Below w.heap.size w (w.alloc (.cells #[.slice none 0 0, .slice none 0 0] 30)) := Seq.way
  have hk := h.keep hb
  refine ⟨hk.bel, fun e => ?_, fun e => ?_, fun _ => ⟨_, rfl, h.bel.size, Row.new w _ _ rfl⟩, hk.rb, fun _ e he => ?_⟩
  · exact (h.c1 e).mono (fun b hh hl => ⟨NoB.new hl, hh.2⟩) fun b _ hl => hb.block b hl
  · exact (h.c2 e).mono (fun b hh hl => ⟨NoB.new hl, hh.2⟩) fun b _ hl => hb.block b hl
  · obtain ⟨B, h1, h2, h3⟩ := h.rb e
    rw [h1] at he
    simp only [Value.pointer.injEq, Option.some.injEq, Addr.mk.injEq] at he
    have := h3.lt
    omega
theorem Inv2.newB (h : Inv2 W0 g1 g2 x y a false v1 v2 sa sb w) : Inv2 W0 g1 g2 x y a true v1 v2 sa (.pointer (some ⟨w.heap.size, 0, none⟩)) (w.alloc (.cells #[.slice none 0 0, .slice none 0 0] 30)) := by
  have hb : Below w.heap.size w (w.alloc (.cells #[.slice none 0 0, .slice none 0 0] 30)) := Seq.way
  have hk := h.keep hb
  refine ⟨hk.bel, fun e => ?_, fun e => ?_, hk.ra, fun _ => ⟨_, rfl, h.bel.size, Row.new w _ _ rfl⟩, fun e _ he => ?_⟩
  · exact (h.c1 e).mono (fun b hh hl => ⟨hh.1, NoB.new hl⟩) fun b _ hl => hb.block b hl
  · exact (h.c2 e).mono (fun b hh hl => ⟨hh.1, NoB.new hl⟩) fun b _ hl => hb.block b hl
  · obtain ⟨B, h1, h2, h3⟩ := h.ra e
    rw [h1] at he
    simp only [Value.pointer.injEq, Option.some.injEq, Addr.mk.injEq] at he
    have := h3.lt
    omega
theorem noB_of (h : Inv2 W0 g1 g2 x y a b v1 v2 sa sb w) {k : Nat} (hk : k < W0.heap.size ∨ w.heap.size ≤ k) : NoB a sa k ∧ NoB b sb k := by
  have key : ∀ (f : Bool) (s : Value), (f = true → ∃ B, s = .pointer (some ⟨B, 0, none⟩) ∧ W0.heap.size ≤ B ∧ B < w.heap.size) → NoB f s k := by
    intro f s hf e1 e2
    obtain ⟨B, rfl, h1, h2⟩ := hf e1
    simp only [Value.pointer.injEq, Option.some.injEq, Addr.mk.injEq] at e2
    omega
  refine ⟨key _ _ fun e => ?_, key _ _ fun e => ?_⟩
  · obtain ⟨B, h1, h2, h3⟩ := h.ra e; exact ⟨B, h1, h2, h3.lt⟩
  · obtain ⟨B, h1, h2, h3⟩ := h.rb e; exact ⟨B, h1, h2, h3.lt⟩
theorem Inv2.call1 {v : Value} (h : Inv2 W0 g1 g2 false false a b v1 v2 sa sb w) (hb : Below w.heap.size w w') (hp : ProgV (Fr (fun k => k < W0.heap.size) w) w' v g1) : Inv2 W0 g1 g2 true false a b v v2 sa sb w' := by
  have hk := h.keep hb
  exact ⟨hk.bel, fun _ => hp.mono (fun k hh _ => noB_of h hh) fun _ _ _ => rfl, (fun e => by cases e), hk.ra, hk.rb, hk.ne⟩
theorem Inv2.call2 {v : Value} (h : Inv2 W0 g1 g2 true false a b v1 v2 sa sb w) (hb : Below w.heap.size w w') (hp : ProgV (Fr (fun k => k < W0.heap.size) w) w' v g2) : Inv2 W0 g1 g2 true true a b v1 v sa sb w' := by
  have hk := h.keep hb
  exact ⟨hk.bel, hk.c1, fun _ => hp.mono (fun k hh _ => noB_of h hh) fun _ _ _ => rfl, hk.ra, hk.rb, hk.ne⟩
end

/-- Behind all of them: two blocks, two programs. -/
structure End2 (W0 : World) (g1 g2 : Prog) (Ba Bb : Nat) (v1 v2 : Value) (la lb : List Value) (w : World) : Prop where
  bel : Below W0.heap.size W0 w
  p1 : ProgV (fun k => k ≠ Ba ∧ k ≠ Bb) w v1 g1
  p2 : ProgV (fun k => k ≠ Ba ∧ k ≠ Bb) w v2 g2
  ra : Row 30 w Ba la
  rb : Row 30 w Bb lb
  loa : W0.heap.size ≤ Ba
  lob : W0.heap.size ≤ Bb
  ne : Ba ≠ Bb
theorem Inv2.end2 {W0 : World} {g1 g2 : Prog} {v1 v2 sa sb : Value} {w : World} (h : Inv2 W0 g1 g2 true true true true v1 v2 sa sb w) :
    ∃ Ba Bb, sa = .pointer (some ⟨Ba, 0, none⟩) ∧ sb = .pointer (some ⟨Bb, 0, none⟩) ∧ End2 W0 g1 g2 Ba Bb v1 v2 zP zP w := by
  obtain ⟨Ba, rfl, h1, h2⟩ := h.ra rfl
  obtain ⟨Bb, rfl, h3, h4⟩ := h.rb rfl
  refine ⟨Ba, Bb, rfl, rfl, h.bel, (h.c1 rfl).mono (fun k hk _ => ?_) fun _ _ _ => rfl, (h.c2 rfl).mono (fun k hk _ => ?_) fun _ _ _ => rfl, h2, h4, h1, h3, fun e => h.ne rfl rfl (by rw [e])⟩
  · exact ⟨fun e => hk.1 rfl (by rw [e]), fun e => hk.2 rfl (by rw [e])⟩
  · exact ⟨fun e => hk.1 rfl (by rw [e]), fun e => hk.2 rfl (by rw [e])⟩
section
variable {W0 : World} {g1 g2 : Prog} {Ba Bb : Nat} {v1 v2 : Value} {la lb : List Value} {w : World}
theorem End2.setA {x0 x1 p q : Value} (h : End2 W0 g1 g2 Ba Bb v1 v2 [x0, x1] lb w) : End2 W0 g1 g2 Ba Bb v1 v2 [p, q] lb ((w.setCell ⟨Ba, 0, none⟩ p).setCell ⟨Ba, 1, none⟩ q) := by
  have ho : Only Ba w ((w.setCell ⟨Ba, 0, none⟩ p).setCell ⟨Ba, 1, none⟩ q) := ((Only.refl Ba w).set 0 p).set 1 q
  exact ⟨(h.bel.setCell (p := ⟨Ba, 0, none⟩) h.loa p).setCell (p := ⟨Ba, 1, none⟩) h.loa q, h.p1.mono (fun _ h _ => h) fun k hk _ => ho k hk.1, h.p2.mono (fun _ h _ => h) fun k hk _ => ho k hk.1,
    (h.ra.set 0 p).set 1 q, h.rb.at (ho _ (Ne.symm h.ne)), h.loa, h.lob, h.ne⟩
theorem End2.setB {x0 x1 p q : Value} (h : End2 W0 g1 g2 Ba Bb v1 v2 la [x0, x1] w) : End2 W0 g1 g2 Ba Bb v1 v2 la [p, q] ((w.setCell ⟨Bb, 0, none⟩ p).setCell ⟨Bb, 1, none⟩ q) := by
  have ho : Only Bb w ((w.setCell ⟨Bb, 0, none⟩ p).setCell ⟨Bb, 1, none⟩ q) := ((Only.refl Bb w).set 0 p).set 1 q
  exact ⟨(h.bel.setCell (p := ⟨Bb, 0, none⟩) h.lob p).setCell (p := ⟨Bb, 1, none⟩) h.lob q, h.p1.mono (fun _ h _ => h) fun k hk _ => ho k hk.2, h.p2.mono (fun _ h _ => h) fun k hk _ => ho k hk.2,
    h.ra.at (ho _ h.ne), (h.rb.set 0 p).set 1 q, h.loa, h.lob, h.ne⟩
end
/-- The frame, what is still open being filled in. -/
def RF2 (t1 t2 ta tb : Tmp) (A : Act) (v1 v2 sa sb : Value) : Act := (((A.put (some t1) v1).put (some t2) v2).put (some ta) sa).put (some tb) sb
def RI2 (t1 t2 ta tb : Tmp) (A0 : Act) (W0 : World) (g1 g2 : Prog) (x y a b : Bool) (A : Act) (w : World) : Prop := ∃ v1 v2 sa sb, A = RF2 t1 t2 ta tb A0 v1 v2 sa sb ∧ Inv2 W0 g1 g2 x y a b v1 v2 sa sb w
theorem region_2boxed {P : Program} {ops : Array Oper} {Q : Exit → Act → World → Prop} {S : World → Prop} (t1 t2 ta tb : Tmp) (W0 : World) (g1 g2 : Prog) {A0 : Act} (fl : Bool → Bool → Bool → Bool → Array Bool) (i1 i2 ia ib : Nat)
    (hok : readyOK2 ops fl i1 i2 ia ib = true)
    (hs1 : ∀ a b, (fl false false a b).setIfInBounds i1 true = fl true false a b) (hs2 : ∀ a b, (fl true false a b).setIfInBounds i2 true = fl true true a b)
    (hsa : ∀ x y b, (fl x y false b).setIfInBounds ia true = fl x y true b) (hsb : ∀ x y a, (fl x y a false).setIfInBounds ib true = fl x y a true)
    (hS : ∀ w, Below W0.heap.size W0 w → S w)
    (h1 : ∀ a b A w, RI2 t1 t2 ta tb A0 W0 g1 g2 false false a b A w → wpOp P ops Q i1 (RI2 t1 t2 ta tb A0 W0 g1 g2 true false a b) A w)
    (h2 : ∀ a b A w, RI2 t1 t2 ta tb A0 W0 g1 g2 true false a b A w → wpOp P ops Q i2 (RI2 t1 t2 ta tb A0 W0 g1 g2 true true a b) A w)
    (ha : ∀ x y b A w, RI2 t1 t2 ta tb A0 W0 g1 g2 x y false b A w → wpOp P ops Q ia (RI2 t1 t2 ta tb A0 W0 g1 g2 x y true b) A w)
    (hb : ∀ x y a A w, RI2 t1 t2 ta tb A0 W0 g1 g2 x y a false A w → wpOp P ops Q ib (RI2 t1 t2 ta tb A0 W0 g1 g2 x y a true) A w)
    (hn : (unlisted ops (fl true true true true)).length = 2)
    (hend : ∀ v1 v2 Ba Bb w, End2 W0 g1 g2 Ba Bb v1 v2 zP zP w → ∀ fuel, wpAnyH P .any ops Q S (fuel + 2) (fl true true true true) (RF2 t1 t2 ta tb A0 v1 v2 (.pointer (some ⟨Ba, 0, none⟩)) (.pointer (some ⟨Bb, 0, none⟩))) w)
    {v1 v2 sa sb : Value} {w : World} (hA : A0 = RF2 t1 t2 ta tb A0 v1 v2 sa sb) (hw : Below W0.heap.size W0 w) {fuel : Nat} {listed : Array Bool} (hl : listed = fl false false false false) (hf : (unlisted ops (fl false false false false)).length ≤ fuel) :
    wpAnyH P .any ops Q S fuel listed A0 w := by
  refine region_2c2a (RI2 t1 t2 ta tb A0 W0 g1 g2) fl i1 i2 ia ib hok hs1 hs2 hsa hsb (fun _ _ _ _ _ _ ⟨_, _, _, _, _, h⟩ => hS _ h.bel) h1 h2 ha hb ?_
    ⟨_, _, _, _, hA, ⟨hw, (fun e => by cases e), (fun e => by cases e), (fun e => by cases e), (fun e => by cases e), fun e => by cases e⟩⟩ hl hf
  rintro _ w ⟨v1, v2, sa, sb, rfl, h⟩ fuel hfu
  rw [hn] at hfu
  obtain ⟨f, rfl⟩ : ∃ f, fuel = f + 2 := ⟨fuel - 2, by omega⟩
  obtain ⟨Ba, Bb, rfl, rfl, he⟩ := h.end2
  exact hend _ _ _ _ _ he f
end Go.Proofs.Ytdbennmbbmoflaa
