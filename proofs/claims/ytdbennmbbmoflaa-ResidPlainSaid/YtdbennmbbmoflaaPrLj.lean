/-
  Layer 18, the program: what holds within Do's first reading.
-/
import Derived.Test.YtdbennmbbmoflaaPrLi
namespace Go.Proofs.Ytdbennmbbmoflaa
open Go Go.RowKit
theorem below_step {w W w' : World} (hb : Below W.heap.size W w') (h : Below w.heap.size w W) : Below w.heap.size w w' := h.trans (hb.mono h.size)

/-- No block of a pointer that has been made. -/
def NoB (f : Bool) (s : Value) (b : Nat) : Prop := f = true → s ≠ .pointer (some ⟨b, 0, none⟩)
theorem NoB.off {s : Value} {b : Nat} : NoB false s b := fun h => by cases h
/-- What holds within Do's first reading. -/
structure RInv (W3 : World) (g : Prog) (j : Nat) (l k x a6 a7 a8 : Bool) (t38 t39 t43 s6 s7 s8 : Value) (w : World) : Prop where
  bel : Below W3.heap.size W3 w
  st : l = true → StateV (fun b => NoB a6 s6 b ∧ NoB a7 s7 b ∧ NoB a8 s8 b) w t38 g
  kd : k = true → ∃ kh, t39 = kindsV kh ∧ KindsAt w kh
  ix : x = true → ∃ kh, t43 = .agg #[isFn (kh + 1 + 2 * j) (kh + 2 + 2 * j), .bool (kNeg j), .bool (kGoes j)] ∧ KindsAt w kh
  r6 : a6 = true → ∃ B, s6 = .pointer (some ⟨B, 0, none⟩) ∧ W3.heap.size ≤ B ∧ Row 57 w B [.slice none 0 0, .slice none 0 0, .slice none 0 0, .slice none 0 0, .slice none 0 0]
  r7 : a7 = true → ∃ B, s7 = .pointer (some ⟨B, 0, none⟩) ∧ W3.heap.size ≤ B ∧ Row 63 w B [.nilFunc, .bool false, .bool false]
  r8 : a8 = true → ∃ B, s8 = .pointer (some ⟨B, 0, none⟩) ∧ W3.heap.size ≤ B ∧ Row 46 w B [.int .i64 0, .slice none 0 0, .slice none 0 0]

theorem RInv.keep {W3 : World} {g : Prog} {j : Nat} {l k x a6 a7 a8 : Bool} {t38 t39 t43 s6 s7 s8 : Value} {w w' : World} (h : RInv W3 g j l k x a6 a7 a8 t38 t39 t43 s6 s7 s8 w) (hb : Below w.heap.size w w') :
    RInv W3 g j l k x a6 a7 a8 t38 t39 t43 s6 s7 s8 w' where
  bel := below_step hb h.bel
  st e := (h.st e).at hb
  kd e := let ⟨kh, h1, h2⟩ := h.kd e; ⟨kh, h1, h2.at hb⟩
  ix e := let ⟨kh, h1, h2⟩ := h.ix e; ⟨kh, h1, h2.at hb⟩
  r6 e := let ⟨B, h1, h2, h3⟩ := h.r6 e; ⟨B, h1, h2, h3.below hb h3.lt⟩
  r7 e := let ⟨B, h1, h2, h3⟩ := h.r7 e; ⟨B, h1, h2, h3.below hb h3.lt⟩
  r8 e := let ⟨B, h1, h2, h3⟩ := h.r8 e; ⟨B, h1, h2, h3.below hb h3.lt⟩
theorem NoB.new {w : World} {b : Nat} (h : b < w.heap.size) : NoB true (.pointer (some ⟨w.heap.size, 0, none⟩)) b := by
  intro _ e
  simp only [Value.pointer.injEq, Option.some.injEq, Addr.mk.injEq] at e
  omega
theorem RInv.new6 {W3 : World} {g : Prog} {j : Nat} {l k x a7 a8 : Bool} {t38 t39 t43 s6 s7 s8 : Value} {w : World} (h : RInv W3 g j l k x false a7 a8 t38 t39 t43 s6 s7 s8 w) :
    RInv W3 g j l k x true a7 a8 t38 t39 t43 (.pointer (some ⟨w.heap.size, 0, none⟩)) s7 s8 (w.alloc (.cells #[.slice none 0 0, .slice none 0 0, .slice none 0 0, .slice none 0 0, .slice none 0 0] 57)) := by
  have hb : Below w.heap.size w (w.alloc (.cells #[.slice none 0 0, .slice none 0 0, .slice none 0 0, .slice none 0 0, .slice none 0 0] 57)) := Seq.way
  have hk := h.keep hb
  refine ⟨hk.bel, fun e => ?_, hk.kd, hk.ix, fun _ => ⟨_, rfl, h.bel.size, Row.new w _ _ rfl⟩, hk.r7, hk.r8⟩
  exact (h.st e).mono (fun b hh hl => ⟨NoB.new hl, hh.2⟩) fun b _ hl => hb.block b hl
theorem RInv.new7 {W3 : World} {g : Prog} {j : Nat} {l k x a6 a8 : Bool} {t38 t39 t43 s6 s7 s8 : Value} {w : World} (h : RInv W3 g j l k x a6 false a8 t38 t39 t43 s6 s7 s8 w) :
    RInv W3 g j l k x a6 true a8 t38 t39 t43 s6 (.pointer (some ⟨w.heap.size, 0, none⟩)) s8 (w.alloc (.cells #[.nilFunc, .bool false, .bool false] 63)) := by
  have hb : Below w.heap.size w (w.alloc (.cells #[.nilFunc, .bool false, .bool false] 63)) := Seq.way
  have hk := h.keep hb
  refine ⟨hk.bel, fun e => ?_, hk.kd, hk.ix, hk.r6, fun _ => ⟨_, rfl, h.bel.size, Row.new w _ _ rfl⟩, hk.r8⟩
  exact (h.st e).mono (fun b hh hl => ⟨hh.1, NoB.new hl, hh.2.2⟩) fun b _ hl => hb.block b hl
theorem RInv.new8 {W3 : World} {g : Prog} {j : Nat} {l k x a6 a7 : Bool} {t38 t39 t43 s6 s7 s8 : Value} {w : World} (h : RInv W3 g j l k x a6 a7 false t38 t39 t43 s6 s7 s8 w) :
    RInv W3 g j l k x a6 a7 true t38 t39 t43 s6 s7 (.pointer (some ⟨w.heap.size, 0, none⟩)) (w.alloc (.cells #[.int .i64 0, .slice none 0 0, .slice none 0 0] 46)) := by
  have hb : Below w.heap.size w (w.alloc (.cells #[.int .i64 0, .slice none 0 0, .slice none 0 0] 46)) := Seq.way
  have hk := h.keep hb
  refine ⟨hk.bel, fun e => ?_, hk.kd, hk.ix, hk.r6, hk.r7, fun _ => ⟨_, rfl, h.bel.size, Row.new w _ _ rfl⟩⟩
  exact (h.st e).mono (fun b hh hl => ⟨hh.1, hh.2.1, NoB.new hl⟩) fun b _ hl => hb.block b hl
theorem RInv.look {W3 : World} {g : Prog} {j : Nat} {a6 a7 a8 : Bool} {t38 t39 t43 s6 s7 s8 sv : Value} {w w' : World} (h : RInv W3 g j false false false a6 a7 a8 t38 t39 t43 s6 s7 s8 w) (hb : Below w.heap.size w w')
    (hs : StateV (Fr (fun b => b < W3.heap.size) w) w' sv g) : RInv W3 g j true false false a6 a7 a8 sv t39 t43 s6 s7 s8 w' := by
  have hk := h.keep hb
  refine ⟨hk.bel, fun _ => ?_, hk.kd, hk.ix, hk.r6, hk.r7, hk.r8⟩
  refine hs.mono (fun b hh _ => ?_) fun _ _ _ => rfl
  have key : ∀ (f : Bool) (s : Value), (f = true → ∃ B, s = .pointer (some ⟨B, 0, none⟩) ∧ W3.heap.size ≤ B ∧ B < w.heap.size) → NoB f s b := by
    intro f s hf e1 e2
    obtain ⟨B, rfl, h1, h2⟩ := hf e1
    simp only [Value.pointer.injEq, Option.some.injEq, Addr.mk.injEq] at e2
    rcases hh with hh | hh
    · have : b < W3.heap.size := hh
      omega
    · omega
  refine ⟨key _ _ fun e => ?_, key _ _ fun e => ?_, key _ _ fun e => ?_⟩
  · obtain ⟨B, h1, h2, h3⟩ := h.r6 e; exact ⟨B, h1, h2, h3.lt⟩
  · obtain ⟨B, h1, h2, h3⟩ := h.r7 e; exact ⟨B, h1, h2, h3.lt⟩
  · obtain ⟨B, h1, h2, h3⟩ := h.r8 e; exact ⟨B, h1, h2, h3.lt⟩
theorem RInv.kinds {W3 : World} {g : Prog} {j : Nat} {a6 a7 a8 : Bool} {t38 t39 t43 s6 s7 s8 : Value} {w w' : World} {kh : Nat} (h : RInv W3 g j true false false a6 a7 a8 t38 t39 t43 s6 s7 s8 w) (hb : Below w.heap.size w w')
    (hK : KindsAt w' kh) : RInv W3 g j true true false a6 a7 a8 t38 (kindsV kh) t43 s6 s7 s8 w' := by
  have hk := h.keep hb
  exact ⟨hk.bel, hk.st, fun _ => ⟨kh, rfl, hK⟩, hk.ix, hk.r6, hk.r7, hk.r8⟩
theorem RInv.index {W3 : World} {g : Prog} {j : Nat} {a6 a7 a8 : Bool} {t38 t39 t43 s6 s7 s8 : Value} {w : World} {kh : Nat} (h : RInv W3 g j true true false a6 a7 a8 t38 t39 t43 s6 s7 s8 w)
    (hK : KindsAt w kh) : RInv W3 g j true true true a6 a7 a8 t38 t39 (.agg #[isFn (kh + 1 + 2 * j) (kh + 2 + 2 * j), .bool (kNeg j), .bool (kGoes j)]) s6 s7 s8 w :=
  ⟨h.bel, h.st, h.kd, fun _ => ⟨kh, rfl, hK⟩, h.r6, h.r7, h.r8⟩

/-- The frame, what is still open being filled in. -/
def RF (A : Act) (t38 t39 t43 s6 s7 s8 : Value) : Act := (((((A.put (some 38) t38).put (some 39) t39).put (some 43) t43).put (some 6) s6).put (some 7) s7).put (some 8) s8
def RI (A0 : Act) (W3 : World) (g : Prog) (j : Nat) (l k x a6 a7 a8 : Bool) (A : Act) (w : World) : Prop :=
  ∃ t38 t39 t43 s6 s7 s8, A = RF A0 t38 t39 t43 s6 s7 s8 ∧ RInv W3 g j l k x a6 a7 a8 t38 t39 t43 s6 s7 s8 w
/-- Do's first reading. -/
theorem region_do {P : Program} {ops : Array Oper} {Q : Exit → Act → World → Prop} {S : World → Prop} (W3 : World) (g : Prog) (j : Nat) {A0 : Act} {w : World} {fuel : Nat} {listed : Array Bool}
    (hr : readyOK ops = true) (hl : listed = flagsL false false false false false false) (hf : (unlisted ops (flagsL false false false false false false)).length ≤ fuel)
    {t38 t39 t43 s6 s7 s8 : Value} (hA : A0 = RF A0 t38 t39 t43 s6 s7 s8) (h0 : RInv W3 g j false false false false false false t38 t39 t43 s6 s7 s8 w)
    (hS : ∀ w, Below W3.heap.size W3 w → S w)
    (h1 : ∀ a b c A w, RI A0 W3 g j false false false a b c A w → wpOp P ops Q 1 (RI A0 W3 g j true false false a b c) A w)
    (h2 : ∀ a b c A w, RI A0 W3 g j true false false a b c A w → wpOp P ops Q 2 (RI A0 W3 g j true true false a b c) A w)
    (h13 : ∀ l k x b c A w, RI A0 W3 g j l k x false b c A w → wpOp P ops Q 13 (RI A0 W3 g j l k x true b c) A w)
    (h14 : ∀ l k x a c A w, RI A0 W3 g j l k x a false c A w → wpOp P ops Q 14 (RI A0 W3 g j l k x a true c) A w)
    (h15 : ∀ l k x a b A w, RI A0 W3 g j l k x a b false A w → wpOp P ops Q 15 (RI A0 W3 g j l k x a b true) A w)
    {o6 : Oper} (ho6 : ops[6]? = some o6) (hd6 : o6.dst = some 43) (hns : Region.noSelect ops = true) (hfree : Region.free .any ops (flagsL true true false true true true) 6 = true)
    (hrd : (Region.ready .any ops (flagsL true true false true true true)).contains 6 = true) (hQ : ∀ v c a w, Q (.panic c) (a.put o6.dst v) w → Q (.panic c) a w)
    (hput : ∀ t38 t39 t43 s6 s7 s8 v, (RF A0 t38 t39 t43 s6 s7 s8).put (some 43) v = RF A0 t38 t39 v s6 s7 s8)
    (hix : ∀ t38 kh t43 s6 s7 s8, YieldsIf P ops S o6 (.agg #[isFn (kh + 1 + 2 * j) (kh + 2 + 2 * j), .bool (kNeg j), .bool (kGoes j)]) (RF A0 t38 (kindsV kh) t43 s6 s7 s8))
    (hend : ∀ t38 t39 t43 s6 s7 s8 w, RInv W3 g j true true true true true true t38 t39 t43 s6 s7 s8 w → ∀ fuel, wpAnyH P .any ops Q S (fuel + 3) (flagsL true true true true true true) (RF A0 t38 t39 t43 s6 s7 s8) w)
    (hn3 : (unlisted ops (flagsL true true true true true true)).length = 3) (hn4 : (unlisted ops (flagsL true true false true true true)).length = 4) :
    wpAnyH P .any ops Q S fuel listed A0 w := by
  refine region_2i3 (RI A0 W3 g j) hr (fun _ _ _ _ _ _ _ _ ⟨_, _, _, _, _, _, _, h⟩ => hS _ h.bel) h1 h2 ?_ h13 h14 h15 ?_ ⟨_, _, _, _, _, _, hA, h0⟩ hl hf
  · rintro a b c _ w ⟨t38, t39, t43, s6, s7, s8, rfl, hR⟩
    obtain ⟨kh, rfl, hK⟩ := hR.kd rfl
    refine (hix t38 kh t43 s6 s7 s8).wpOp ho6 (hS _ hR.bel) ?_
    rw [hd6, hput]
    exact ⟨_, _, _, _, _, _, rfl, hR.index hK⟩
  · rintro x _ w ⟨t38, t39, t43, s6, s7, s8, rfl, hR⟩ fuel hfu
    cases x
    · rw [hn4] at hfu
      obtain ⟨f, rfl⟩ : ∃ f, fuel = f + 3 + 1 := ⟨fuel - 4, by omega⟩
      obtain ⟨kh, rfl, hK⟩ := hR.kd rfl
      refine wpAnyH_take ho6 hns hfree hrd (hQ _) (hix t38 kh t43 s6 s7 s8) (hS _ hR.bel) ?_
      rw [hd6, hput]
      exact hend _ _ _ _ _ _ _ (hR.index hK) f
    · rw [hn3] at hfu
      obtain ⟨f, rfl⟩ : ∃ f, fuel = f + 3 := ⟨fuel - 3, by omega⟩
      exact hend _ _ _ _ _ _ _ hR f
end Go.Proofs.Ytdbennmbbmoflaa
