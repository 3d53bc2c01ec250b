/-
  Layer 18: the walk of ResidPlain.
-/
import Derived.Test.YtdbennmbbmoflaaPrU
import Derived.Test.YtdbennmbbmoflaaResT
import Derived.Test.YtdbennmbbmoflaaFlow
import Derived.Deep.RegionLaw
namespace Go.Proofs.Ytdbennmbbmoflaa
open Go Go.RowKit

theorem Own.reS {α : Type} {E : Elt α} {S T : Nat → Prop} {base : Nat} {e : TypeId} {w : World} {v : Value} {xs : List α} (h : Own E S base e w v xs)
    (hT : ∀ b, S b → b < w.heap.size → v.ownBlock ≠ some b → T b) : Own E T base e w v xs := by
  obtain ⟨vs, h1, h2⟩ := h
  refine ⟨vs, h1, fun k x hx => ?_⟩
  obtain ⟨cs, h3, h4⟩ := h2 k x hx
  exact ⟨cs, E.mono h3 (fun b hb hl => ⟨hT b hb.1 hl hb.2, hb.2⟩) (fun _ _ _ => rfl), h4⟩
theorem Own.moveO {α : Type} {E : Elt α} {S : Nat → Prop} {base : Nat} {e : TypeId} {w w' : World} {v : Value} {xs : List α} (h : Own E S base e w v xs)
    (hw : ∀ b, b < w.heap.size → v.ownBlock = some b → w'.heap[b]? = w.heap[b]?) (hS : ∀ b, b < w.heap.size → S b → w'.heap[b]? = w.heap[b]?) : Own E S base e w' v xs := by
  obtain ⟨vs, h1, h2⟩ := h
  refine ⟨vs, ownsRow_at h1 fun k hk => hw k (h1.lt k hk).2 hk, fun k x hx => ?_⟩
  obtain ⟨cs, h3, h4⟩ := h2 k x hx
  exact ⟨cs, E.mono h3 (fun _ h _ => h) (fun b hb hlt => hS b hlt hb.1), h4⟩

/-- The atom b(0). -/
def atomB : List Cell := [⟨3, ⟨#[98]⟩, 1⟩, ⟨2, ⟨#[]⟩, 0⟩]

theorem atomB_seq {w : World} {B : Nat} (h : w.heap[B]? = some (.cells #[.int .i64 3, .string ⟨#[98]⟩, .int .i64 1, .int .i64 2, .string ⟨#[]⟩, .int .i64 0] 50 (0, 0))) :
    Seq cellE (fun b => b = B) w (.slice (some ⟨B, 0, none⟩) 2 2) atomB := by
  refine Row.seq (T := 50) (vs := [.int .i64 3, .string ⟨#[98]⟩, .int .i64 1, .int .i64 2, .string ⟨#[]⟩, .int .i64 0]) h rfl (Nat.le_refl _) (by simp [maxLen]) (by simp [atomB]) rfl ?_
  intro k x hk
  have hk2 : k < 2 := by have := (List.getElem?_eq_some_iff.1 hk).1; simpa [atomB] using this
  rcases (show k = 0 ∨ k = 1 by omega) with rfl | rfl
  all_goals
    simp [atomB] at hk; subst hk
    refine ⟨_, ⟨rfl, ⟨by decide, by decide⟩, ⟨by decide, by decide⟩, by decide⟩, ?_⟩
    intro j hj
    have : j < 3 := hj
    rcases (show j = 0 ∨ j = 1 ∨ j = 2 by omega) with rfl | rfl | rfl <;> rfl

/-- What stands within ResidPlain's loop: two rows of its own. -/
structure PlainM (lo : Nat) (w wx : World) (B6 : Nat) (va vb vP vO : Value) (g : Prog) (base : Nat) (ps os : List Rule) : Prop where
  bel : Below w.heap.size w wx
  r : Row 30 wx B6 [va, vb]
  g : ProgV (fun b => b < lo) wx (.agg #[va, vb]) g
  pl : Own ruleE (fun b => b < lo) base 46 wx vP ps
  ot : Own ruleE (fun b => vP.ownBlock ≠ some b) base 46 wx vO os
  ne : ∀ b, vP.ownBlock = some b → vO.ownBlock ≠ some b
  hbox : B6 < base
  hlo : lo ≤ base
  hbase : base ≤ wx.heap.size
  wlo : w.heap.size ≤ lo

theorem PlainM.appP {lo : Nat} {w wr W w7 : World} {B6 : Nat} {va vb vP vP' vO : Value} {g : Prog} {base : Nat} {ps ps' os : List Rule} (h : PlainM lo w wr B6 va vb vP vO g base ps os)
    (hW : Below wr.heap.size wr W) (hk : Kept base wr W w7 vP vP') (ho : Own ruleE (fun b => b < lo) base 46 w7 vP' ps') : PlainM lo w w7 B6 va vb vP' vO g base ps' os := by
  have h1 := h.wlo
  have h2 := h.hlo
  have h3 := h.hbase
  have h4 := hW.size
  have h5 := hk.below.size
  have h6 := h.hbox
  have hv' : ∀ b, b < W.heap.size → vP.ownBlock ≠ some b → vP'.ownBlock ≠ some b := fun b hb h7 h8 => by
    rcases hk.blk with e | e
    · rw [e] at h8; exact h7 h8
    · rw [e] at h8
      simp only [Option.some.injEq] at h8
      omega
  refine ⟨h.bel.trans ((hW.mono h.bel.size).trans (hk.below.mono (by omega))), (h.r.below hW h.r.lt).below hk.below h6, h.g.mono (fun _ h _ => h) (fun b (hb : b < lo) hl => (hk.below.block b (by omega)).trans (hW.block b hl)), ho, ?_, ?_, h6, h2, by omega, h1⟩
  · have hot := h.ot.move hW
    have hot2 := hot.reS (T := fun b => vP.ownBlock ≠ some b ∧ vP'.ownBlock ≠ some b) fun b hb hl _ => ⟨hb, hv' b hl hb⟩
    exact (hot2.moveO (w' := w7) (fun b hb hob => hk.keep b hb fun e => h.ne b e hob) (fun b hb hs => hk.keep b hb hs.1)).reS fun b hb _ _ => hb.2
  · intro b e e'
    have hlt : b < W.heap.size := by
      have := (h.ot.blk e').2
      omega
    exact hv' b hlt (fun e2 => h.ne b e2 e') e

theorem PlainM.appO {lo : Nat} {w wr W w7 : World} {B6 : Nat} {va vb vP vO vO' : Value} {g : Prog} {base : Nat} {ps os os' : List Rule} (h : PlainM lo w wr B6 va vb vP vO g base ps os)
    (hW : Below wr.heap.size wr W) (hk : Kept base wr W w7 vO vO') (ho : Own ruleE (fun b => vP.ownBlock ≠ some b) base 46 w7 vO' os') : PlainM lo w w7 B6 va vb vP vO' g base ps os' := by
  have h1 := h.wlo
  have h2 := h.hlo
  have h3 := h.hbase
  have h4 := hW.size
  have h5 := hk.below.size
  have h6 := h.hbox
  refine ⟨h.bel.trans ((hW.mono h.bel.size).trans (hk.below.mono (by omega))), (h.r.below hW h.r.lt).below hk.below h6, h.g.mono (fun _ h _ => h) (fun b (hb : b < lo) hl => (hk.below.block b (by omega)).trans (hW.block b hl)), ?_, ho, ?_, h6, h2, by omega, h1⟩
  · exact (h.pl.move hW).moveO (w' := w7) (fun b hb hob => hk.keep b hb (h.ne b hob)) (fun b hb (hs : b < lo) => hk.below.block b (by omega))
  · intro b e e'
    have hlt : b < wr.heap.size := (h.pl.blk e).2
    rcases hk.blk with e2 | e2
    · rw [e2] at e'; exact h.ne b e e'
    · rw [e2] at e'
      simp only [Option.some.injEq] at e'
      omega

theorem seq_ints {S : Nat → Prop} {w : World} {ao : Option Addr} {n cap : Nat} {xs : List Int} (h : Seq intE S w (.slice ao n cap) xs) (h0 : 0 < xs.length) :
    ∃ b off, ao = some ⟨b, off, none⟩ ∧ b < w.heap.size ∧ ∀ (j : Nat) (x : Int), xs[j]? = some x → w.cell? ⟨b, off + j, none⟩ = some (.int .i64 x) := by
  obtain ⟨_, _, e, -, -, -, -, hs⟩ := h
  simp only [Value.slice.injEq] at e
  obtain ⟨rfl, -, rfl⟩ := e
  obtain ⟨b, off, rfl, -, hb, -, -⟩ := hs.int h0
  refine ⟨b, off, rfl, hb, fun j x hx => ?_⟩
  obtain ⟨hj, rfl⟩ := List.getElem?_eq_some_iff.1 hx
  obtain ⟨b', off', e, -, -, hc, -⟩ := hs.int hj
  simp only [Option.some.injEq, Addr.mk.injEq, and_true] at e
  obtain ⟨rfl, rfl⟩ := e
  exact hc
theorem seq_bools {S : Nat → Prop} {w : World} {ao : Option Addr} {n cap : Nat} {xs : List Bool} (h : Seq boolE S w (.slice ao n cap) xs) (h0 : 0 < xs.length) :
    ∃ b off, ao = some ⟨b, off, none⟩ ∧ b < w.heap.size ∧ ∀ (j : Nat) (x : Bool), xs[j]? = some x → w.cell? ⟨b, off + j, none⟩ = some (.bool x) := by
  obtain ⟨_, _, e, -, -, -, -, hs⟩ := h
  simp only [Value.slice.injEq] at e
  obtain ⟨rfl, -, rfl⟩ := e
  obtain ⟨b, off, rfl, -, hb, -⟩ := hs.bool h0
  refine ⟨b, off, rfl, hb, fun j x hx => ?_⟩
  obtain ⟨hj, rfl⟩ := List.getElem?_eq_some_iff.1 hx
  obtain ⟨b', off', e, -, -, hc⟩ := hs.bool hj
  simp only [Option.some.injEq, Addr.mk.injEq, and_true] at e
  obtain ⟨rfl, rfl⟩ := e
  exact hc

theorem progP2 {S T : Nat → Prop} {w : World} {va vr : Value} {g P : Prog} {x : List Cell} {rs : List Rule} (hP : P = ⟨g.atoms ++ [x], rs⟩) (ha : Seq (seqE cellE) S w va (g.atoms ++ [x])) (hr : Seq ruleE T w vr rs) : ProgV (fun _ => True) w (.agg #[va, vr]) P := by
  subst hP
  exact ⟨va, vr, rfl, ha.mono (fun _ _ _ => trivial) fun _ _ _ => rfl, hr.mono (fun _ _ _ => trivial) fun _ _ _ => rfl⟩

theorem wp_app_rule {P : Program} {o : Oper} {a : Act} {Q : Exit → Act → World → Prop} {S Sy : Nat → Prop} {w wm : World} {K : Act → World → Prop} (s x : Operand) (t : TypeId)
    (ho : o.op = .call { callee := .builtin .append, args := #[s, x], argTypes := #[t, t] })
    {base : Nat} {e : TypeId} (ht : P.underlying t = some (.slice e)) (hi : (P.info? e).map (fun i => (i.zero, i.size, i.bytes)) = some (some (.agg #[.int .i64 0, .slice none 0 0, .slice none 0 0]), 3, 56))
    {v : Value} {xs : List Rule} (hs : a.eval s = v) (hown : Own ruleE S base e wm v xs) {B c : Nat} (hx : a.eval x = .slice (some ⟨B, 0, none⟩) 1 c)
    (hbw : Below wm.heap.size wm w) {y : Rule} {vp vn : Value} (hh : IntOK y.head) (hp : Seq intE Sy w vp y.pos) (hn : Seq intE Sy w vn y.neg) (hS : ∀ b, Sy b → b < w.heap.size → S b ∧ (b < base ∨ wm.heap.size ≤ b))
    (hc0 : w.cell? ⟨B, 0, none⟩ = some (.int .i64 y.head)) (hc1 : w.cell? ⟨B, 1, none⟩ = some vp) (hc2 : w.cell? ⟨B, 2, none⟩ = some vn) (hbytes : xs.length ≤ 1000000000000) (hbase : base ≤ wm.heap.size)
    (h : ∀ ao cap w', Own ruleE S base e w' (.slice ao (xs.length + 1) cap) (xs ++ [y]) → Kept base wm w w' v (.slice ao (xs.length + 1) cap) → K (a.put o.dst (.slice ao (xs.length + 1) cap)) w') : o.wp P a w K Q :=
  wp_app1 (E := ruleE) (Sy := Sy) (y := y) (cs := [.int .i64 y.head, vp, vn]) s x t ho ht hi rfl hs hown hbw _ _ hx ⟨vp, vn, rfl, hh, hp, hn⟩ hS
    (by
      intro j hj
      have h3 : j < 3 := hj
      rcases (show j = 0 ∨ j = 1 ∨ j = 2 by omega) with rfl | rfl | rfl
      · exact hc0
      · exact hc1
      · exact hc2) (by omega) (by simp only [maxLen]; omega) hbase h

/-- One number in a block of its own. -/
theorem one_seq {w : World} {B : Nat} {n : Int} (h : w.heap[B]? = some (.cells #[.int .i64 n] 3 (0, 0))) (hn : IntOK n) : Seq intE (fun b => b = B) w (.slice (some ⟨B, 0, none⟩) 1 1) [n] := by
  refine Row.seq (T := 3) (vs := [.int .i64 n]) h rfl (Nat.le_refl _) (by simp [maxLen]) (by simp) rfl ?_
  intro k x hk
  have hk2 : k < 1 := by have := (List.getElem?_eq_some_iff.1 hk).1; simpa using this
  obtain rfl : k = 0 := by omega
  simp at hk; subst hk
  exact ⟨_, ⟨rfl, hn⟩, fun j hj => by
    have : j < 1 := hj
    obtain rfl : j = 0 := by omega
    rfl⟩

theorem PlainM.rule {lo : Nat} {w wx : World} {B6 : Nat} {va vP vO : Value} {g : Prog} {base : Nat} {ps os : List Rule} {b off grc : Nat} (h : PlainM lo w wx B6 va (.slice (some ⟨b, off, none⟩) g.rules.length grc) vP vO g base ps os) {k : Nat} (hk : k < g.rules.length) :
    ∃ pa pc, b < lo ∧ wx.cell? ⟨b, off + k * 3, none⟩ = some (.int .i64 g.rules[k].head) ∧ wx.cell? ⟨b, off + k * 3 + 1, none⟩ = some (.slice pa g.rules[k].pos.length pc) ∧ IntOK g.rules[k].head ∧ Seq intE (fun b => b < lo) wx (.slice pa g.rules[k].pos.length pc) g.rules[k].pos := by
  obtain ⟨_, _, hag, -, hsr⟩ := h.g
  simp only [Value.agg.injEq, Array.mk.injEq, List.cons.injEq, and_true] at hag
  obtain ⟨rfl, rfl⟩ := hag
  obtain ⟨_, _, ee, -, -, -, -, hs⟩ := hsr
  simp only [Value.slice.injEq] at ee
  obtain ⟨rfl, -, rfl⟩ := ee
  obtain ⟨b', off', pa, pc, na, nc, e, hbl, hb, r0, r1, r2, hok, hp, hn⟩ := hs.rule hk
  simp only [Option.some.injEq, Addr.mk.injEq, and_true] at e
  obtain ⟨rfl, rfl⟩ := e
  exact ⟨pa, pc, hbl, r0, r1, hok, hp⟩
theorem PlainM.cells {lo : Nat} {w wx : World} {B6 : Nat} {va vb vP vO : Value} {g : Prog} {base : Nat} {ps os : List Rule} (h : PlainM lo w wx B6 va vb vP vO g base ps os) {W : World} (hW : Below base wx W) : W.cell? ⟨B6, 0, none⟩ = some va ∧ W.cell? ⟨B6, 1, none⟩ = some vb :=
  ⟨(h.r.below hW h.hbox).cell (j := 0) (by simp), (h.r.below hW h.hbox).cell (j := 1) (by simp)⟩

set_option maxHeartbeats 8000000 in
set_option maxRecDepth 100000 in
theorem plain_walk {w : World} {v0 : Value} {l : List Rule} {n : Nat} (hl : Seq ruleE (fun b => b < w.heap.size) w v0 l) (hn : n < 256) :
    Calls Try.prog 8 #[v0, .int .u8 n] w (RetV (.bool true) w) := by
  have Hl := Lib.hid hl
  obtain ⟨la, lc, rfl, -⟩ := hl
  go_enter Try.func8, Try.ntmps8
  go_wp2_with fail
  refine (head_of doIs (w := w)).mono ?_
  rintro e w1 ⟨rfl, hb1⟩
  have z1 := hb1.size
  go_wp2_with fail
  refine (Made_spec (Hl.out.at hb1) hn).mono ?_
  rintro e w2 ⟨vg, rfl, hb2, hg⟩
  have hB2 : Below w.heap.size w w2 := hb1.trans (hb2.mono z1)
  have z2 := hB2.size
  obtain ⟨ga, gac, gra, grc, rfl⟩ := hg.shape
  obtain ⟨g, hgm⟩ : ∃ g, g = madeL l n := ⟨_, rfl⟩
  have hfine : FineP g := by rw [hgm]; exact madeL_fine l n
  have hal : 1 ≤ g.atoms.length ∧ g.atoms.length ≤ 12 := by rw [hgm]; exact madeL_atoms l n
  have hrl : g.rules.length ≤ 24 := by rw [hgm]; exact madeL_rules l n
  rw [← hgm] at hg ⊢
  clear hgm
  have Hg := Lib.hid (hg.mono (T := fun b => b < w2.heap.size) (fun b _ h => h) fun _ _ _ => rfl)
  clear hg hb1 hb2
  go_upto_region 3 with fail
  have hR3 : Row 30 (w2.alloc (.cells #[.slice ga g.atoms.length gac, .slice gra g.rules.length grc] 30)) w2.heap.size [.slice ga g.atoms.length gac, .slice gra g.rules.length grc] := Row.new _ _ _ rfl
  have hb3 : Below w2.heap.size w2 (w2.alloc (.cells #[.slice ga g.atoms.length gac, .slice gra g.rules.length grc] 30)) := Seq.way
  have z3 : (w2.alloc (.cells #[.slice ga g.atoms.length gac, .slice gra g.rules.length grc] 30)).heap.size = w2.heap.size + 1 := by simp
  generalize w2.alloc (.cells #[.slice ga g.atoms.length gac, .slice gra g.rules.length grc] 30) = w3 at hR3 hb3 z3 ⊢
  have R3 := Lib.hid hR3
  have Hb3 := Lib.hid hb3
  have Z3 := Lib.hid z3
  have G3 := Lib.hid (Hg.out.at hb3)
  clear hR3 hb3 z3
  go_cut [6, 7, 8] (fun s6 s7 s8 wx => ∃ B6 base, s6 = .pointer (some ⟨B6, 0, none⟩) ∧ PlainM w2.heap.size w wx B6 (.slice ga g.atoms.length gac) (.slice gra g.rules.length grc) s7 s8 g base [] [])
  case first =>
    go_wp2_with fail
    go_meet
    have hz := Z3.out
    have hbt : Below w3.heap.size w3 ((w3.alloc (.cells #[] 46)).alloc (.cells #[] 46)) := Seq.way
    refine ⟨_, w3.heap.size, rfl, ⟨hB2.trans ((Hb3.out.trans (hbt.mono (by omega))).mono z2), rowTo R3.out hbt, G3.out.mono (fun _ h _ => h) (fun b (h : b < w2.heap.size) _ => hbt.block b (by omega)), ?_, ?_, ?_, by omega, by omega, by simp; omega, z2⟩⟩
    · exact (Own.lit0 (w := w3) rfl (Nat.le_refl _) rfl).move Seq.way
    · exact Own.lit0 (w := w3.alloc (.cells #[] 46)) (by simp) (by simp) rfl
    · intro b e e'
      simp only [Value.ownBlock, Option.some.injEq] at e e'
      omega
  case rest =>
    obtain ⟨B6, base, rfl, HM⟩ := hcut
    clear R3 Hb3 Z3 G3 Hg Hl z1 hB2
    generalize w2.heap.size = lo at HM z2
    go_wp2_with fail
    go_loopw [7, 8, 9] (fun vP vO i wr => ∃ (k : Nat) (ps os : List Rule), k ≤ g.rules.length ∧ i = .int .i64 k ∧ Hid (ps = plainL (g.rules.take k)) ∧ Hid (os = otherL (g.atoms.length : Int) (g.rules.take k)) ∧ PlainM lo w wr B6 (.slice ga g.atoms.length gac) (.slice gra g.rules.length grc) vP vO g base ps os) (fun _ _ i _ => g.rules.length - (intOf i).toNat)
    case atStart => exact ⟨0, _, _, Nat.zero_le _, rfl, Lib.hid rfl, Lib.hid rfl, HM⟩
    case round =>
      clear HM
      obtain ⟨k, ps, os, hk, rfl, hps, hos, HF⟩ := hrel
      have Q8 := HF.r.cell (j := 1) (by simp)
      have Q7 := HF.r.cell (j := 0) (by simp)
      simp only [List.getElem_cons_zero, List.getElem_cons_succ] at Q7 Q8
      have l8 := HF.r.lt
      by_cases hlt : k < g.rules.length
      · obtain ⟨_, _, hag, -, hsr⟩ := HF.g
        simp only [Value.agg.injEq, Array.mk.injEq, List.cons.injEq, and_true] at hag
        obtain ⟨rfl, rfl⟩ := hag
        obtain ⟨_, _, ee, -, -, -, -, hs⟩ := hsr
        simp only [Value.slice.injEq] at ee
        obtain ⟨rfl, -, rfl⟩ := ee
        obtain ⟨b, off, pa, pc, na, nc, rfl, hbl, hb, r0, r1, r2, hok, hp, hn⟩ := hs.rule hlt
        have HFF := Lib.hid HF
        have hkl : (k : Int) < (g.rules.length : Int) := by omega
        have hk0 : (0 : Int) ≤ (k : Int) := by omega
        have Hp := Lib.hid hp
        clear hs hp hn HF
        have hst := Lib.hid (plainL_snoc hlt)
        have hst2 := Lib.hid (otherL_snoc (n := (g.atoms.length : Int)) hlt)
        have hlp : ps.length ≤ 100 := by rw [hps.out, plainL_len, List.length_take]; omega
        have hlo2 : os.length ≤ 100 := by rw [hos.out, otherL_len, List.length_take]; omega
        have hb7 := HFF.out.hbase
        have hk7 : ∀ {W : World}, Below base wr W → W.cell? ⟨B6, 0, none⟩ = some (.slice ga g.atoms.length gac) ∧ W.cell? ⟨B6, 1, none⟩ = some (.slice (some ⟨b, off, none⟩) g.rules.length grc) ∧ W.cell? ⟨b, off + k * 3, none⟩ = some (.int .i64 g.rules[k].head) ∧ W.cell? ⟨b, off + k * 3 + 1, none⟩ = some (.slice pa g.rules[k].pos.length pc) := fun hW =>
          ⟨(HFF.out.cells hW).1, (HFF.out.cells hW).2, (hW.cell (p := ⟨b, off + k * 3, none⟩) (Nat.lt_of_lt_of_le hbl HFF.out.hlo)).trans r0, (hW.cell (p := ⟨b, off + k * 3 + 1, none⟩) (Nat.lt_of_lt_of_le hbl HFF.out.hlo)).trans r1⟩
        have Hk7 := fun {W : World} (hW : Below base wr W) => Lib.hid (hk7 hW)
        clear hk7
        clear r0 r1 r2
        go_upto_region 7 with fail
        (try simp only [List.append_eq, List.cons_append, List.nil_append])
        refine wp_region_noPanic ?_
        refine wp_region_held_drew (S := fun w' => w'.cell? ⟨B6, 0, none⟩ = some (.slice ga g.atoms.length gac) ∧ w'.cell? ⟨B6, 1, none⟩ = some (.slice (some ⟨b, off, none⟩) g.rules.length grc) ∧ w'.cell? ⟨b, off + k * 3, none⟩ = some (.int .i64 g.rules[k].head) ∧ w'.cell? ⟨b, off + k * 3 + 1, none⟩ = some (.slice pa g.rules[k].pos.length pc)) (by kernel_rfl) ?_ (fun hHeld => ?_)
        · exact (Hk7 (Below.drew (Below.refl _ _))).out
        refine wpAnyH_take1 (i := 0) (oi := _) (v := ?_) (by kernel_rfl) rfl (by kernel_rfl) (fun _ _ _ h => h) (Or.inl ⟨by rfl, ?_⟩) (by assumption) ?_
        rotate_left 1
        · intro w hSw; (try dsimp only at hSw); go_simp; (with_reducible rfl)
        (try simp only [Act.put, List.getElem_toArray, List.getElem_cons_zero, List.setIfInBounds_toArray, List.set_cons_zero, List.set_cons_succ])
        refine wpAnyH_take1 (i := 1) (oi := _) (v := ?_) (by kernel_rfl) rfl (by kernel_rfl) (fun _ _ _ h => h) (Or.inl ⟨by rfl, ?_⟩) (by assumption) ?_
        rotate_left 1
        · intro w hSw; (try dsimp only at hSw); go_simp; (with_reducible rfl)
        (try simp only [Act.put, List.getElem_toArray, List.getElem_cons_zero, List.getElem_cons_succ, List.setIfInBounds_toArray, List.set_cons_zero, List.set_cons_succ])
        refine wpAnyH_take1 (i := 2) (oi := _) (v := ?_) (by kernel_rfl) rfl (by kernel_rfl) (fun _ _ _ h => h) (Or.inl ⟨by rfl, ?_⟩) (by assumption) ?_
        rotate_left 1
        · intro w hSw; (try dsimp only at hSw); go_simp; (with_reducible rfl)
        (try simp only [Act.put, List.getElem_toArray, List.getElem_cons_zero, List.getElem_cons_succ, List.setIfInBounds_toArray, List.set_cons_zero, List.set_cons_succ])
        refine wpAnyH_take1 (i := 3) (oi := _) (v := ?_) (by kernel_rfl) rfl (by kernel_rfl) (fun _ _ _ h => h) (Or.inl ⟨by rfl, ?_⟩) (by assumption) ?_
        rotate_left 1
        · intro w hSw; (try dsimp only at hSw); go_simp; (with_reducible rfl)
        (try simp only [Act.put, List.getElem_toArray, List.getElem_cons_zero, List.getElem_cons_succ, List.setIfInBounds_toArray, List.set_cons_zero, List.set_cons_succ])
        refine wpAnyH_take1 (i := 4) (oi := _) (v := ?_) (by kernel_rfl) rfl (by kernel_rfl) (fun _ _ _ h => h) (Or.inl ⟨by rfl, ?_⟩) (by assumption) ?_
        rotate_left 1
        · intro w hSw; (try dsimp only at hSw); go_simp; (with_reducible rfl)
        (try simp only [Act.put, List.getElem_toArray, List.getElem_cons_zero, List.getElem_cons_succ, List.setIfInBounds_toArray, List.set_cons_zero, List.set_cons_succ])
        refine wpAnyH_take1 (i := 5) (oi := _) (v := ?_) (by kernel_rfl) rfl (by kernel_rfl) (fun _ _ _ h => h) (Or.inl ⟨by rfl, ?_⟩) (by assumption) ?_
        rotate_left 1
        · intro w hSw; (try dsimp only at hSw); go_simp; (with_reducible rfl)
        (try simp only [Act.put, List.getElem_toArray, List.getElem_cons_zero, List.getElem_cons_succ, List.setIfInBounds_toArray, List.set_cons_zero, List.set_cons_succ])
        refine wpAnyH_take1 (i := 6) (oi := _) (v := ?_) (by kernel_rfl) rfl (by kernel_rfl) (fun _ _ _ h => h) (Or.inl ⟨by rfl, ?_⟩) (by assumption) ?_
        rotate_left 1
        · intro w hSw; (try dsimp only at hSw); go_simp; (with_reducible rfl)
        (try simp only [Act.put, List.getElem_toArray, List.getElem_cons_zero, List.getElem_cons_succ, List.setIfInBounds_toArray, List.set_cons_zero, List.set_cons_succ])
        refine wpAnyH_take1 (i := 7) (oi := _) (v := ?_) (by kernel_rfl) rfl (by kernel_rfl) (fun _ _ _ h => h) (Or.inl ⟨by rfl, ?_⟩) (by assumption) ?_
        rotate_left 1
        · intro w hSw; (try dsimp only at hSw); go_simp; (with_reducible rfl)
        (try simp only [Act.put, List.getElem_toArray, List.getElem_cons_zero, List.getElem_cons_succ, List.setIfInBounds_toArray, List.set_cons_zero, List.set_cons_succ])
        refine wpAnyH_take1 (i := 8) (oi := _) (v := ?_) (by kernel_rfl) rfl (by kernel_rfl) (fun _ _ _ h => h) (Or.inl ⟨by rfl, ?_⟩) (by assumption) ?_
        rotate_left 1
        · intro w hSw; (try dsimp only at hSw); go_simp; (with_reducible rfl)
        (try simp only [Act.put, List.getElem_toArray, List.getElem_cons_zero, List.getElem_cons_succ, List.setIfInBounds_toArray, List.set_cons_zero, List.set_cons_succ])
        refine wpAnyH_take1 (i := 9) (oi := _) (v := ?_) (by kernel_rfl) rfl (by kernel_rfl) (fun _ _ _ h => h) (Or.inl ⟨by rfl, ?_⟩) (by assumption) ?_
        rotate_left 1
        · intro w hSw; (try dsimp only at hSw); go_simp; (with_reducible rfl)
        (try simp only [Act.put, List.getElem_toArray, List.getElem_cons_zero, List.getElem_cons_succ, List.setIfInBounds_toArray, List.set_cons_zero, List.set_cons_succ])
        refine wpAnyH_take1 (i := 10) (oi := _) (v := ?_) (by kernel_rfl) rfl (by kernel_rfl) (fun _ _ _ h => h) (Or.inl ⟨by rfl, ?_⟩) (by assumption) ?_
        rotate_left 1
        · intro w hSw; (try dsimp only at hSw); go_simp; (with_reducible rfl)
        (try simp only [Act.put, List.getElem_toArray, List.getElem_cons_zero, List.getElem_cons_succ, List.setIfInBounds_toArray, List.set_cons_zero, List.set_cons_succ])
        refine wpAnyH_take1 (i := 11) (oi := _) (v := ?_) (by kernel_rfl) rfl (by kernel_rfl) (fun _ _ _ h => h) (Or.inl ⟨by rfl, ?_⟩) (by assumption) ?_
        rotate_left 1
        · intro w hSw; (try dsimp only at hSw); go_simp; (with_reducible rfl)
        (try simp only [Act.put, List.getElem_toArray, List.getElem_cons_zero, List.getElem_cons_succ, List.setIfInBounds_toArray, List.set_cons_zero, List.set_cons_succ])
        refine wpAnyH_take1 (i := 12) (oi := _) (v := ?_) (by kernel_rfl) rfl (by kernel_rfl) (fun _ _ _ h => h) (Or.inl ⟨by rfl, ?_⟩) (by assumption) ?_
        rotate_left 1
        · intro w hSw; (try dsimp only at hSw); go_simp; (with_reducible rfl)
        (try simp only [Act.put, List.getElem_toArray, List.getElem_cons_zero, List.getElem_cons_succ, List.setIfInBounds_toArray, List.set_cons_zero, List.set_cons_succ])
        refine wpAnyH_take1 (i := 13) (oi := _) (v := ?_) (by kernel_rfl) rfl (by kernel_rfl) (fun _ _ _ h => h) (Or.inl ⟨by rfl, ?_⟩) (by assumption) ?_
        rotate_left 1
        · intro w hSw; (try dsimp only at hSw); go_simp; (with_reducible rfl)
        (try simp only [Act.put, List.getElem_toArray, List.getElem_cons_zero, List.getElem_cons_succ, List.setIfInBounds_toArray, List.set_cons_zero, List.set_cons_succ])
        refine wpAnyH_one (i := 14) (by kernel_rfl) rfl (by rfl) fun K hK => ?_
        go_simp
        (try dsimp only)
        clear hHeld
        refine hK.out _ _ (Hk7 (Below.mono (Seq.way : Below wr.heap.size wr _) hb7)).out fun hHeld => ?_
        clear hK K
        (try simp only [Act.put, List.getElem_toArray, List.getElem_cons_zero, List.getElem_cons_succ, List.setIfInBounds_toArray, List.set_cons_zero, List.set_cons_succ])
        clear hHeld
        refine wpAnyH_one (i := 15) (by kernel_rfl) rfl (by rfl) fun K hK => ?_
        refine wp_app_rule (S := fun b => b < lo) (Sy := fun b => b < lo) (base := base) (wm := wr) (y := ⟨g.rules[k].head, g.rules[k].pos, []⟩) (.tmp 29) (.tmp 43) 22 rfl Try.underlying22 infoRule rfl HFF.out.pl rfl Seq.way hok (Hp.out.at Seq.way) (Seq.nil _ _ _) (fun b h _ => ⟨h, .inl (Nat.lt_of_lt_of_le h HFF.out.hlo)⟩) (by go_simp) (by go_simp) (by go_simp) (by omega) HFF.out.hbase ?_
        intro ao1 cap1 w7 hown7 hk7
        have HF7 := Lib.hid (HFF.out.appP Seq.way hk7 hown7)
        have HK7 := (Below.mono (Seq.way : Below wr.heap.size wr (wr.alloc _).drew) hb7).trans hk7.below
        refine hK.out _ _ (Hk7 HK7).out fun hHeld => ?_
        clear hK K hown7 hk7
        (try simp only [Act.put, List.getElem_toArray, List.getElem_cons_zero, List.getElem_cons_succ, List.setIfInBounds_toArray, List.set_cons_zero, List.set_cons_succ])
        refine wpAnyH_one (i := 16) (by kernel_rfl) rfl (by rfl) fun K hK => ?_
        go_simp
        (try dsimp only)
        clear hHeld
        refine hK.out _ _ (Hk7 HK7).out fun hHeld => ?_
        clear hK K
        (try simp only [Act.put, List.getElem_toArray, List.getElem_cons_zero, List.getElem_cons_succ, List.setIfInBounds_toArray, List.set_cons_zero, List.set_cons_succ])
        refine wpAnyH_done (by kernel_rfl) ?_ _
        refine NoPanic.normal ?_
        obtain ⟨pa2, pc2, -, q0, q1, -, hp2⟩ := HF7.out.rule hlt
        have Hp2 := Lib.hid hp2
        clear hp2 HFF Hp Hk7 HK7 hb7 l8
        have hb8 := HF7.out.hbase
        have hk8 : ∀ {W : World}, Below base w7 W → W.cell? ⟨B6, 0, none⟩ = some (.slice ga g.atoms.length gac) ∧ W.cell? ⟨B6, 1, none⟩ = some (.slice (some ⟨b, off, none⟩) g.rules.length grc) ∧ W.cell? ⟨b, off + k * 3, none⟩ = some (.int .i64 g.rules[k].head) ∧ W.cell? ⟨b, off + k * 3 + 1, none⟩ = some (.slice pa2 g.rules[k].pos.length pc2) := fun hW =>
          ⟨(HF7.out.cells hW).1, (HF7.out.cells hW).2, (hW.cell (p := ⟨b, off + k * 3, none⟩) (Nat.lt_of_lt_of_le hbl HF7.out.hlo)).trans q0, (hW.cell (p := ⟨b, off + k * 3 + 1, none⟩) (Nat.lt_of_lt_of_le hbl HF7.out.hlo)).trans q1⟩
        have Hk8 := fun {W : World} (hW : Below base w7 W) => Lib.hid (hk8 hW)
        clear hk8
        go_upto_region 8 with fail
        (try simp only [List.append_eq, List.cons_append, List.nil_append])
        refine wp_region_noPanic ?_
        refine wp_region_held_drew (S := fun w' => w'.cell? ⟨B6, 0, none⟩ = some (.slice ga g.atoms.length gac) ∧ w'.cell? ⟨B6, 1, none⟩ = some (.slice (some ⟨b, off, none⟩) g.rules.length grc) ∧ w'.cell? ⟨b, off + k * 3, none⟩ = some (.int .i64 g.rules[k].head) ∧ w'.cell? ⟨b, off + k * 3 + 1, none⟩ = some (.slice pa2 g.rules[k].pos.length pc2)) (by kernel_rfl) ?_ (fun hHeld => ?_)
        · exact (Hk8 (Below.drew (Below.refl _ _))).out
        refine wpAnyH_take1 (i := 0) (oi := _) (v := ?_) (by kernel_rfl) rfl (by kernel_rfl) (fun _ _ _ h => h) (Or.inl ⟨by rfl, ?_⟩) (by assumption) ?_
        rotate_left 1
        · intro w hSw; (try dsimp only at hSw); go_simp; (with_reducible rfl)
        (try simp only [Act.put, List.getElem_toArray, List.getElem_cons_zero, List.setIfInBounds_toArray, List.set_cons_zero, List.set_cons_succ])
        refine wpAnyH_take1 (i := 1) (oi := _) (v := ?_) (by kernel_rfl) rfl (by kernel_rfl) (fun _ _ _ h => h) (Or.inl ⟨by rfl, ?_⟩) (by assumption) ?_
        rotate_left 1
        · intro w hSw; (try dsimp only at hSw); go_simp; (with_reducible rfl)
        (try simp only [Act.put, List.getElem_toArray, List.getElem_cons_zero, List.getElem_cons_succ, List.setIfInBounds_toArray, List.set_cons_zero, List.set_cons_succ])
        refine wpAnyH_take1 (i := 2) (oi := _) (v := ?_) (by kernel_rfl) rfl (by kernel_rfl) (fun _ _ _ h => h) (Or.inl ⟨by rfl, ?_⟩) (by assumption) ?_
        rotate_left 1
        · intro w hSw; (try dsimp only at hSw); go_simp; (with_reducible rfl)
        (try simp only [Act.put, List.getElem_toArray, List.getElem_cons_zero, List.getElem_cons_succ, List.setIfInBounds_toArray, List.set_cons_zero, List.set_cons_succ])
        refine wpAnyH_take1 (i := 3) (oi := _) (v := ?_) (by kernel_rfl) rfl (by kernel_rfl) (fun _ _ _ h => h) (Or.inl ⟨by rfl, ?_⟩) (by assumption) ?_
        rotate_left 1
        · intro w hSw; (try dsimp only at hSw); go_simp; (with_reducible rfl)
        (try simp only [Act.put, List.getElem_toArray, List.getElem_cons_zero, List.getElem_cons_succ, List.setIfInBounds_toArray, List.set_cons_zero, List.set_cons_succ])
        refine wpAnyH_take1 (i := 4) (oi := _) (v := ?_) (by kernel_rfl) rfl (by kernel_rfl) (fun _ _ _ h => h) (Or.inl ⟨by rfl, ?_⟩) (by assumption) ?_
        rotate_left 1
        · intro w hSw; (try dsimp only at hSw); go_simp; (with_reducible rfl)
        (try simp only [Act.put, List.getElem_toArray, List.getElem_cons_zero, List.getElem_cons_succ, List.setIfInBounds_toArray, List.set_cons_zero, List.set_cons_succ])
        refine wpAnyH_take1 (i := 5) (oi := _) (v := ?_) (by kernel_rfl) rfl (by kernel_rfl) (fun _ _ _ h => h) (Or.inl ⟨by rfl, ?_⟩) (by assumption) ?_
        rotate_left 1
        · intro w hSw; (try dsimp only at hSw); go_simp; (with_reducible rfl)
        (try simp only [Act.put, List.getElem_toArray, List.getElem_cons_zero, List.getElem_cons_succ, List.setIfInBounds_toArray, List.set_cons_zero, List.set_cons_succ])
        refine wpAnyH_take1 (i := 6) (oi := _) (v := ?_) (by kernel_rfl) rfl (by kernel_rfl) (fun _ _ _ h => h) (Or.inl ⟨by rfl, ?_⟩) (by assumption) ?_
        rotate_left 1
        · intro w hSw; (try dsimp only at hSw); go_simp; (with_reducible rfl)
        (try simp only [Act.put, List.getElem_toArray, List.getElem_cons_zero, List.getElem_cons_succ, List.setIfInBounds_toArray, List.set_cons_zero, List.set_cons_succ])
        refine wpAnyH_take1 (i := 7) (oi := _) (v := ?_) (by kernel_rfl) rfl (by kernel_rfl) (fun _ _ _ h => h) (Or.inl ⟨by rfl, ?_⟩) (by assumption) ?_
        rotate_left 1
        · intro w hSw; (try dsimp only at hSw); go_simp; (with_reducible rfl)
        (try simp only [Act.put, List.getElem_toArray, List.getElem_cons_zero, List.getElem_cons_succ, List.setIfInBounds_toArray, List.set_cons_zero, List.set_cons_succ])
        refine wpAnyH_take1 (i := 8) (oi := _) (v := ?_) (by kernel_rfl) rfl (by kernel_rfl) (fun _ _ _ h => h) (Or.inl ⟨by rfl, ?_⟩) (by assumption) ?_
        rotate_left 1
        · intro w hSw; (try dsimp only at hSw); go_simp; (with_reducible rfl)
        (try simp only [Act.put, List.getElem_toArray, List.getElem_cons_zero, List.getElem_cons_succ, List.setIfInBounds_toArray, List.set_cons_zero, List.set_cons_succ])
        refine wpAnyH_take1 (i := 9) (oi := _) (v := ?_) (by kernel_rfl) rfl (by kernel_rfl) (fun _ _ _ h => h) (Or.inl ⟨by rfl, ?_⟩) (by assumption) ?_
        rotate_left 1
        · intro w hSw; (try dsimp only at hSw); go_simp; (with_reducible rfl)
        (try simp only [Act.put, List.getElem_toArray, List.getElem_cons_zero, List.getElem_cons_succ, List.setIfInBounds_toArray, List.set_cons_zero, List.set_cons_succ])
        refine wpAnyH_take1 (i := 10) (oi := _) (v := ?_) (by kernel_rfl) rfl (by kernel_rfl) (fun _ _ _ h => h) (Or.inl ⟨by rfl, ?_⟩) (by assumption) ?_
        rotate_left 1
        · intro w hSw; (try dsimp only at hSw); go_simp; (with_reducible rfl)
        (try simp only [Act.put, List.getElem_toArray, List.getElem_cons_zero, List.getElem_cons_succ, List.setIfInBounds_toArray, List.set_cons_zero, List.set_cons_succ])
        refine wpAnyH_take1 (i := 11) (oi := _) (v := ?_) (by kernel_rfl) rfl (by kernel_rfl) (fun _ _ _ h => h) (Or.inl ⟨by rfl, ?_⟩) (by assumption) ?_
        rotate_left 1
        · intro w hSw; (try dsimp only at hSw); go_simp; (with_reducible rfl)
        (try simp only [Act.put, List.getElem_toArray, List.getElem_cons_zero, List.getElem_cons_succ, List.setIfInBounds_toArray, List.set_cons_zero, List.set_cons_succ])
        refine wpAnyH_take1 (i := 12) (oi := _) (v := ?_) (by kernel_rfl) rfl (by kernel_rfl) (fun _ _ _ h => h) (Or.inl ⟨by rfl, ?_⟩) (by assumption) ?_
        rotate_left 1
        · intro w hSw; (try dsimp only at hSw); go_simp; (with_reducible rfl)
        (try simp only [Act.put, List.getElem_toArray, List.getElem_cons_zero, List.getElem_cons_succ, List.setIfInBounds_toArray, List.set_cons_zero, List.set_cons_succ])
        refine wpAnyH_take1 (i := 13) (oi := _) (v := ?_) (by kernel_rfl) rfl (by kernel_rfl) (fun _ _ _ h => h) (Or.inl ⟨by rfl, ?_⟩) (by assumption) ?_
        rotate_left 1
        · intro w hSw; (try dsimp only at hSw); go_simp; (with_reducible rfl)
        (try simp only [Act.put, List.getElem_toArray, List.getElem_cons_zero, List.getElem_cons_succ, List.setIfInBounds_toArray, List.set_cons_zero, List.set_cons_succ])
        refine wpAnyH_take1 (i := 14) (oi := _) (v := ?_) (by kernel_rfl) rfl (by kernel_rfl) (fun _ _ _ h => h) (Or.inl ⟨by rfl, ?_⟩) (by assumption) ?_
        rotate_left 1
        · intro w hSw; (try dsimp only at hSw); go_simp; (with_reducible rfl)
        (try simp only [Act.put, List.getElem_toArray, List.getElem_cons_zero, List.getElem_cons_succ, List.setIfInBounds_toArray, List.set_cons_zero, List.set_cons_succ])
        refine wpAnyH_take1 (i := 15) (oi := _) (v := ?_) (by kernel_rfl) rfl (by kernel_rfl) (fun _ _ _ h => h) (Or.inl ⟨by rfl, ?_⟩) (by assumption) ?_
        rotate_left 1
        · intro w hSw; (try dsimp only at hSw); go_simp; (with_reducible rfl)
        (try simp only [Act.put, List.getElem_toArray, List.getElem_cons_zero, List.getElem_cons_succ, List.setIfInBounds_toArray, List.set_cons_zero, List.set_cons_succ])
        refine wpAnyH_one (i := 16) (by kernel_rfl) rfl (by rfl) fun K hK => ?_
        go_simp
        (try dsimp only)
        clear hHeld
        refine hK.out _ _ (Hk8 (Below.mono (Seq.way : Below w7.heap.size w7 _) hb8)).out fun hHeld => ?_
        clear hK K
        (try simp only [Act.put, List.getElem_toArray, List.getElem_cons_zero, List.getElem_cons_succ, List.setIfInBounds_toArray, List.set_cons_zero, List.set_cons_succ])
        refine wpAnyH_take1 (i := 17) (oi := _) (v := ?_) (by kernel_rfl) rfl (by kernel_rfl) (fun _ _ _ h => h) (Or.inl ⟨by rfl, ?_⟩) (by assumption) ?_
        rotate_left 1
        · intro w hSw; (try dsimp only at hSw); go_simp; (with_reducible rfl)
        (try simp only [Act.put, List.getElem_toArray, List.getElem_cons_zero, List.getElem_cons_succ, List.setIfInBounds_toArray, List.set_cons_zero, List.set_cons_succ])
        refine wpAnyH_one (i := 18) (by kernel_rfl) rfl (by rfl) fun K hK => ?_
        go_simp
        (try dsimp only)
        clear hHeld
        refine hK.out _ _ (Hk8 (Below.mono (Seq.way : Below w7.heap.size w7 _) hb8)).out fun hHeld => ?_
        clear hK K
        (try simp only [Act.put, List.getElem_toArray, List.getElem_cons_zero, List.getElem_cons_succ, List.setIfInBounds_toArray, List.set_cons_zero, List.set_cons_succ])
        clear hHeld
        refine wpAnyH_one (i := 19) (by kernel_rfl) rfl (by rfl) fun K hK => ?_

        refine wp_app_rule (S := fun b => Value.ownBlock (.slice ao1 (ps.length + 1) cap1) ≠ some b) (Sy := fun b => b < lo ∨ b = w7.heap.size) (base := base) (wm := w7) (y := ⟨g.rules[k].head, g.rules[k].pos, [(g.atoms.length : Int)]⟩) (vn := .slice (some ⟨w7.heap.size, 0, none⟩) 1 1) (.tmp 45) (.tmp 63) 22 rfl Try.underlying22 infoRule rfl HF7.out.ot rfl Seq.way hok ((Hp2.out.at Seq.way).mono (fun b h _ => .inl h) fun _ _ _ => rfl) ?_ ?_ (by go_simp) (by go_simp) (by go_simp) (by omega) HF7.out.hbase ?_
        · exact ((one_seq (w := w7.alloc (.cells #[.int .i64 (g.atoms.length : Int)] 3)) (heap_alloc_new w7 _) ⟨by omega, by omega⟩).at Seq.way).mono (fun b h _ => .inr h) fun _ _ _ => rfl
        · intro b' h _
          rcases h with h | h
          · exact ⟨fun e => by
              have h1 := (HF7.out.pl.blk e).1
              have h2 := HF7.out.hlo
              omega, .inl (Nat.lt_of_lt_of_le h HF7.out.hlo)⟩
          · exact ⟨fun e => by
              have h1 := (HF7.out.pl.blk e).2
              omega, .inr (by omega)⟩
        intro ao2 cap2 w9 hown9 hk9
        have HF9 := Lib.hid (HF7.out.appO Seq.way hk9 hown9)
        have HK9 := (Below.mono (Seq.way : Below w7.heap.size w7 ((w7.alloc _).alloc _).drew) hb8).trans hk9.below
        refine hK.out _ _ (Hk8 HK9).out fun hHeld => ?_
        clear hK K hown9 hk9
        (try simp only [Act.put, List.getElem_toArray, List.getElem_cons_zero, List.getElem_cons_succ, List.setIfInBounds_toArray, List.set_cons_zero, List.set_cons_succ])
        refine wpAnyH_one (i := 20) (by kernel_rfl) rfl (by rfl) fun K hK => ?_
        go_simp
        (try dsimp only)
        clear hHeld
        refine hK.out _ _ (Hk8 HK9).out fun hHeld => ?_
        clear hK K
        (try simp only [Act.put, List.getElem_toArray, List.getElem_cons_zero, List.getElem_cons_succ, List.setIfInBounds_toArray, List.set_cons_zero, List.set_cons_succ])
        refine wpAnyH_done (by kernel_rfl) ?_ _
        refine NoPanic.normal ?_
        go_wp2_with fail
        go_roundw
        case rel => exact ⟨k + 1, _, _, hlt, by go_num, Lib.hid (by rw [hst.out, hps.out]), Lib.hid (by rw [hst2.out, hos.out]), HF9.out⟩
        case measure => simp [intOf]; omega
      · have hke : k = g.rules.length := by omega
        subst hke
        rw [List.take_length] at hps hos
        have hlt' : ¬ ((g.rules.length : Int) < (g.rules.length : Int)) := by omega
        have HFF := Lib.hid HF
        clear HF hlt hk
        go_upto_region 9 with fail
        obtain ⟨w8, rfl⟩ : ∃ w8, w8 = wr := ⟨_, rfl⟩
        obtain ⟨P1, hP1⟩ : ∃ P1 : Prog, P1 = ⟨g.atoms, rulesL ps⟩ := ⟨_, rfl⟩
        obtain ⟨P2, hP2⟩ : ∃ P2 : Prog, P2 = ⟨g.atoms ++ [atomB], rulesL os⟩ := ⟨_, rfl⟩
        have f1 : FineP P1 := by rw [hP1, hps.out]; exact plain_fine hfine (by omega)
        have f2 : FineP P2 := by rw [hP2, hos.out]; exact other_fine hfine (by omega) (by omega) _
        have hlaw := Lib.hid (plain_law hfine (by omega) (by omega) atomB [] [])
        rw [← hps.out, ← hos.out, ← hP1, ← hP2] at hlaw
        have hlp : ps.length ≤ 100 := by rw [hps.out, plainL_len]; omega
        have hlo2 : os.length ≤ 100 := by rw [hos.out, otherL_len]; omega
        have HP1 := Lib.hid hP1
        have HP2 := Lib.hid hP2
        clear hP1 hP2
        have HPl := Lib.hid (HFF.out.pl.seq (by omega) (T := fun b => b < w8.heap.size) fun b h _ => h)
        have HOt := Lib.hid (HFF.out.ot.seq (by omega) (T := fun b => b < w8.heap.size) fun b h _ => h)
        obtain ⟨_, _, hag, hat, -⟩ := HFF.out.g
        simp only [Value.agg.injEq, Array.mk.injEq, List.cons.injEq, and_true] at hag
        obtain ⟨rfl, -⟩ := hag
        have HAt := Lib.hid hat
        have hk8 : ∀ {W : World}, Below w8.heap.size w8 W → W.cell? ⟨B6, 0, none⟩ = some (.slice ga g.atoms.length gac) := fun hW => (rowTo HFF.out.r hW).cell (j := 0) (by simp)
        have Hk8 := fun {W : World} (hW : Below w8.heap.size w8 W) => Lib.hid (hk8 hW)
        clear hk8 hat Q7 Q8
        go_cut [10] (fun s10 wx => ∃ B r1 c1, s10 = .pointer (some ⟨B, 0, none⟩) ∧ Row 30 wx B [.slice ga g.atoms.length gac, .slice r1 (rulesL ps).length c1] ∧ Seq ruleE (fun _ => True) wx (.slice r1 (rulesL ps).length c1) (rulesL ps) ∧ Below w8.heap.size w8 wx)
        case first =>
          (try simp only [List.append_eq, List.cons_append, List.nil_append])
          refine wp_region_noPanic ?_
          refine wp_region_held_drew (S := fun w' => w'.cell? ⟨B6, 0, none⟩ = some (.slice ga g.atoms.length gac)) (by kernel_rfl) ?_ (fun hHeld => ?_)
          · exact (Hk8 (Below.drew (Below.refl _ _))).out
          refine wpAnyH_take1 (i := 0) (oi := _) (v := ?_) (by kernel_rfl) rfl (by kernel_rfl) (fun _ _ _ h => h) (Or.inl ⟨by rfl, ?_⟩) (by assumption) ?_
          rotate_left 1
          · intro w hSw; (try dsimp only at hSw); go_simp; (with_reducible rfl)
          (try simp only [Act.put, List.getElem_toArray, List.getElem_cons_zero, List.setIfInBounds_toArray, List.set_cons_zero, List.set_cons_succ])
          refine wpAnyH_take1 (i := 1) (oi := _) (v := ?_) (by kernel_rfl) rfl (by kernel_rfl) (fun _ _ _ h => h) (Or.inl ⟨by rfl, ?_⟩) (by assumption) ?_
          rotate_left 1
          · intro w hSw; (try dsimp only at hSw); go_simp; (with_reducible rfl)
          (try simp only [Act.put, List.getElem_toArray, List.getElem_cons_zero, List.getElem_cons_succ, List.setIfInBounds_toArray, List.set_cons_zero, List.set_cons_succ])
          refine wpAnyH_take1 (i := 2) (oi := _) (v := ?_) (by kernel_rfl) rfl (by kernel_rfl) (fun _ _ _ h => h) (Or.inl ⟨by rfl, ?_⟩) (by assumption) ?_
          rotate_left 1
          · intro w hSw; (try dsimp only at hSw); go_simp; (with_reducible rfl)
          (try simp only [Act.put, List.getElem_toArray, List.getElem_cons_zero, List.getElem_cons_succ, List.setIfInBounds_toArray, List.set_cons_zero, List.set_cons_succ])
          clear hHeld
          refine wpAnyH_fork (i := 3) (j := 5) (by kernel_rfl) rfl rfl (by rfl) (by rfl) ?_ ?_
          · intro K hK
            go_simp
            refine (RulesL_spec (HPl.out.at Seq.way) (by omega)).mono ?_
            rintro e x1 ⟨vr, rfl, hb, hq⟩
            obtain ⟨ra1, rc1, rfl, -⟩ := id hq
            (try dsimp only)
            have HB1 := below_step hb (Seq.way : Below w8.heap.size w8 _)
            have z1 := HB1.size
            refine hK.out _ _ (Hk8 HB1).out fun hHeld => ?_
            clear hK K
            (try simp only [Act.put, List.getElem_toArray, List.getElem_cons_zero, List.getElem_cons_succ, List.setIfInBounds_toArray, List.set_cons_zero, List.set_cons_succ])
            refine wpAnyH_take1 (i := 4) (oi := _) (v := ?_) (by kernel_rfl) rfl (by kernel_rfl) (fun _ _ _ h => h) (Or.inl ⟨by rfl, ?_⟩) (by assumption) ?_
            rotate_left 1
            · intro w hSw; (try dsimp only at hSw); go_simp; (with_reducible rfl)
            (try simp only [Act.put, List.getElem_toArray, List.getElem_cons_zero, List.getElem_cons_succ, List.setIfInBounds_toArray, List.set_cons_zero, List.set_cons_succ])
            clear hHeld
            refine wpAnyH_one (i := 5) (by kernel_rfl) rfl (by rfl) fun K hK => ?_
            go_simp
            refine hK.out _ _ (Hk8 Seq.way).out fun hHeld => ?_
            clear hK K
            (try simp only [Act.put, List.getElem_toArray, List.getElem_cons_zero, List.getElem_cons_succ, List.setIfInBounds_toArray, List.set_cons_zero, List.set_cons_succ])
            have hR : Row 30 (x1.alloc (.cells #[.slice none 0 0, .slice none 0 0] 30)) x1.heap.size [.slice none 0 0, .slice none 0 0] := Row.new _ _ _ rfl
            have hp' : Seq ruleE (fun b => b ≠ x1.heap.size) (x1.alloc (.cells #[.slice none 0 0, .slice none 0 0] 30)) _ (rulesL ps) := hq.mono (fun b _ hl e => absurd hl (by rw [e]; exact Nat.lt_irrefl _)) fun b _ hl => Below.heap_alloc _ _ _ hl
            have HBx : Below w8.heap.size w8 (x1.alloc (.cells #[.slice none 0 0, .slice none 0 0] 30)) := Seq.way
            have hlo : w8.heap.size ≤ x1.heap.size := z1
            clear hq hb
            generalize hx3 : x1.alloc (.cells #[.slice none 0 0, .slice none 0 0] 30) = x3 at hR hp' HBx hHeld ⊢
            generalize x1.heap.size = B at hR hp' hlo ⊢
            clear hx3
            have hp := hp'
            clear hp'
            have b0 := hR.cell (j := 0) (by simp)
            have b1 := hR.cell (j := 1) (by simp)
            simp only [List.getElem_cons_zero, List.getElem_cons_succ] at b0 b1
            have bf := hR.frozen
            refine wpAnyH_one (i := 6) (by kernel_rfl) rfl (by rfl) fun K hK => ?_
            go_simp
            have HBy := (HBx.setCell (p := ⟨B, 0, none⟩) hlo (.slice ga g.atoms.length gac)).setCell (p := ⟨B, 1, none⟩) hlo (.slice ra1 (rulesL ps).length rc1)
            have HRy : Row 30 ((x3.setCell ⟨B, 0, none⟩ (.slice ga g.atoms.length gac)).setCell ⟨B, 1, none⟩ (.slice ra1 (rulesL ps).length rc1)) (B) [(.slice ga g.atoms.length gac), (.slice ra1 (rulesL ps).length rc1)] := (hR.set 0 (.slice ga g.atoms.length gac)).set 1 (.slice ra1 (rulesL ps).length rc1)
            have HPy : Seq ruleE (fun _ => True) ((x3.setCell ⟨B, 0, none⟩ (.slice ga g.atoms.length gac)).setCell ⟨B, 1, none⟩ (.slice ra1 (rulesL ps).length rc1)) (.slice ra1 (rulesL ps).length rc1) (rulesL ps) := hp.mono (fun _ _ _ => trivial) fun b hb _ => (((Only.refl _ x3).set 0 (.slice ga g.atoms.length gac)).set 1 (.slice ra1 (rulesL ps).length rc1)) b hb
            clear hHeld b0 b1 bf
            refine hK.out _ _ (Hk8 HBy).out fun hHeld => ?_
            generalize (x3.setCell ⟨B, 0, none⟩ (.slice ga g.atoms.length gac)).setCell ⟨B, 1, none⟩ (.slice ra1 (rulesL ps).length rc1) = x4 at HBy HRy HPy hHeld ⊢
            clear hK K hR hp HBx
            refine wpAnyH_done (by kernel_rfl) ?_ _
            refine NoPanic.normal ?_
            go_wp2_with fail
            go_meet
            exact ⟨_, _, _, rfl, HRy, HPy, HBy⟩
          · intro K hK
            go_simp
            refine hK.out _ _ (Hk8 Seq.way).out fun hHeld => ?_
            clear hK K
            (try simp only [Act.put, List.getElem_toArray, List.getElem_cons_zero, List.getElem_cons_succ, List.setIfInBounds_toArray, List.set_cons_zero, List.set_cons_succ])
            have hR0 : Row 30 (w8.alloc (.cells #[.slice none 0 0, .slice none 0 0] 30)).drew w8.heap.size [.slice none 0 0, .slice none 0 0] := Row.at (Row.new w8 _ _ rfl) rfl
            have HB0 : Below w8.heap.size w8 (w8.alloc (.cells #[.slice none 0 0, .slice none 0 0] 30)).drew := Seq.way
            generalize (w8.alloc (.cells #[.slice none 0 0, .slice none 0 0] 30)).drew = x1 at hR0 HB0 hHeld ⊢
            clear hHeld
            refine wpAnyH_one (i := 3) (by kernel_rfl) rfl (by rfl) fun K hK => ?_
            go_simp
            refine (RulesL_spec (HPl.out.at HB0) (by omega)).mono ?_
            rintro e x3 ⟨vr, rfl, hb, hp0⟩
            obtain ⟨ra1, rc1, rfl, -⟩ := id hp0
            (try dsimp only)
            have HBx := below_step hb HB0
            refine hK.out _ _ (Hk8 HBx).out fun hHeld => ?_
            clear hK K
            (try simp only [Act.put, List.getElem_toArray, List.getElem_cons_zero, List.getElem_cons_succ, List.setIfInBounds_toArray, List.set_cons_zero, List.set_cons_succ])
            have hR := rowTo hR0 hb
            have hlB := hR0.lt
            have hlo : w8.heap.size ≤ w8.heap.size := Nat.le_refl _
            have hp : Seq ruleE (fun b => b ≠ w8.heap.size) x3 _ (rulesL ps) := hp0.mono (fun b hb _ e => by rcases hb with h | h <;> (subst e; omega)) fun _ _ _ => rfl
            clear hp0 hR0 hb
            refine wpAnyH_take1 (i := 4) (oi := _) (v := ?_) (by kernel_rfl) rfl (by kernel_rfl) (fun _ _ _ h => h) (Or.inl ⟨by rfl, ?_⟩) (by assumption) ?_
            rotate_left 1
            · intro w hSw; (try dsimp only at hSw); go_simp; (with_reducible rfl)
            (try simp only [Act.put, List.getElem_toArray, List.getElem_cons_zero, List.getElem_cons_succ, List.setIfInBounds_toArray, List.set_cons_zero, List.set_cons_succ])
            have b0 := hR.cell (j := 0) (by simp)
            have b1 := hR.cell (j := 1) (by simp)
            simp only [List.getElem_cons_zero, List.getElem_cons_succ] at b0 b1
            have bf := hR.frozen
            refine wpAnyH_one (i := 6) (by kernel_rfl) rfl (by rfl) fun K hK => ?_
            go_simp
            have HBy := (HBx.setCell (p := ⟨w8.heap.size, 0, none⟩) hlo (.slice ga g.atoms.length gac)).setCell (p := ⟨w8.heap.size, 1, none⟩) hlo (.slice ra1 (rulesL ps).length rc1)
            have HRy : Row 30 ((x3.setCell ⟨w8.heap.size, 0, none⟩ (.slice ga g.atoms.length gac)).setCell ⟨w8.heap.size, 1, none⟩ (.slice ra1 (rulesL ps).length rc1)) (w8.heap.size) [(.slice ga g.atoms.length gac), (.slice ra1 (rulesL ps).length rc1)] := (hR.set 0 (.slice ga g.atoms.length gac)).set 1 (.slice ra1 (rulesL ps).length rc1)
            have HPy : Seq ruleE (fun _ => True) ((x3.setCell ⟨w8.heap.size, 0, none⟩ (.slice ga g.atoms.length gac)).setCell ⟨w8.heap.size, 1, none⟩ (.slice ra1 (rulesL ps).length rc1)) (.slice ra1 (rulesL ps).length rc1) (rulesL ps) := hp.mono (fun _ _ _ => trivial) fun b hb _ => (((Only.refl _ x3).set 0 (.slice ga g.atoms.length gac)).set 1 (.slice ra1 (rulesL ps).length rc1)) b hb
            clear hHeld b0 b1 bf
            refine hK.out _ _ (Hk8 HBy).out fun hHeld => ?_
            generalize (x3.setCell ⟨w8.heap.size, 0, none⟩ (.slice ga g.atoms.length gac)).setCell ⟨w8.heap.size, 1, none⟩ (.slice ra1 (rulesL ps).length rc1) = x4 at HBy HRy HPy hHeld ⊢
            clear hK K hR hp HBx
            refine wpAnyH_done (by kernel_rfl) ?_ _
            refine NoPanic.normal ?_
            go_wp2_with fail
            go_meet
            exact ⟨_, _, _, rfl, HRy, HPy, HBy⟩
        case rest =>
          obtain ⟨B10, r1, c1, rfl, hR10, hr10, hb9⟩ := hcut
          obtain ⟨w9, rfl⟩ : ∃ w9, w9 = wc := ⟨_, rfl⟩
          have z9 := hb9.size
          have R10 := Lib.hid hR10
          have HR10 := Lib.hid hr10
          have HB9 := Lib.hid hb9
          have HAt9 := Lib.hid (((HAt.out.at hb9).bnd.mono (T := fun b => b < w9.heap.size) (fun b h _ => h.2) fun _ _ _ => rfl).at (w' := w9.alloc (.cells #[] 51)) Seq.way)
          have HOt9 := Lib.hid ((HOt.out.at hb9).bnd.mono (T := fun b => b < w9.heap.size) (fun b h _ => h.2) fun _ _ _ => rfl)
          have HAtP := Lib.hid (HAt.out.at hb9)
          have c6 := (Hk8 hb9).out
          have l6 : B6 < w9.heap.size := by have h1 := HFF.out.hbox; have h2 := HFF.out.hbase; omega
          clear hR10 hr10 hb9
          go_upto_region 10 with fail
          go_wp2_with (at_builtin; refine wpList_appL (E := seqE cellE) (S := fun b => b < w9.heap.size) (base := w9.heap.size) (wm := w9.alloc (.cells #[] 51)) (zs := g.atoms) rfl (.tmp 70) (.tmp 72) 28 rfl Try.underlying28 infoSeq rfl rfl (Own.lit0 rfl (Nat.le_refl _) rfl) (Below.refl _ _) rfl HAt9.out (fun b h _ => ⟨h, .inl h⟩) rfl (by omega) (by omega) (by simp) ?_)
          intro ao1 cap1 w10 hown10 hk10
          have hK10 : Below w9.heap.size w9 w10 := (Seq.way : Below w9.heap.size w9 (w9.alloc (.cells #[] 51))).trans hk10.below
          have HOwn10 := Lib.hid hown10
          have K10 := Lib.hid hK10
          clear hown10 hk10 hK10 c6 l6
          go_wp2_with fail
          refine (RulesL_spec (HOt9.out.at K10.out) (by omega)).mono ?_
          rintro e w11 ⟨vr2, rfl, hb11, hq11⟩
          obtain ⟨ra2, rc2, rfl, -⟩ := id hq11
          have HQ11 := Lib.hid (hq11.bnd.mono (T := fun b => (b < w9.heap.size ∨ w10.heap.size ≤ b) ∧ b < w11.heap.size) (fun b h _ => ⟨h.1, h.2⟩) fun _ _ _ => rfl)
          have K11 := Lib.hid (K10.out.trans (hb11.mono K10.out.size))
          have HOwn11 := Lib.hid (HOwn10.out.move hb11)
          have hblk : ∀ b, Value.ownBlock (.slice ao1 g.atoms.length cap1) = some b → w9.heap.size ≤ b ∧ b < w10.heap.size := fun b hb => HOwn10.out.blk hb
          have Hblk := Lib.hid hblk
          have z11 := hb11.size
          have z10 := K10.out.size
          clear hq11 hb11 HOwn10 hblk
          go_upto_region 11 with fail
          have hR11 : Row 30 (w11.alloc (.cells #[.slice ao1 g.atoms.length cap1, .slice ra2 (rulesL os).length rc2] 30)) w11.heap.size [.slice ao1 g.atoms.length cap1, .slice ra2 (rulesL os).length rc2] := Row.new _ _ _ rfl
          have hb12 : Below w11.heap.size w11 (w11.alloc (.cells #[.slice ao1 g.atoms.length cap1, .slice ra2 (rulesL os).length rc2] 30)) := Seq.way
          have z12 : (w11.alloc (.cells #[.slice ao1 g.atoms.length cap1, .slice ra2 (rulesL os).length rc2] 30)).heap.size = w11.heap.size + 1 := by simp
          generalize w11.alloc (.cells #[.slice ao1 g.atoms.length cap1, .slice ra2 (rulesL os).length rc2] 30) = w12 at hR11 hb12 z12 ⊢
          have HOwn12 := Lib.hid ((HOwn11.out.move hb12).reS (T := fun b => b ≠ w11.heap.size) fun b (h : b < w9.heap.size) _ _ => by omega)
          have HQ12 := Lib.hid (HQ11.out.at hb12)
          have K12 := Lib.hid (K11.out.trans (hb12.mono K11.out.size))
          have R11 := Lib.hid hR11
          have HB12 := Lib.hid hb12
          clear HOwn11 HQ11 K11
          generalize w11.heap.size = B11 at R11 HOwn12 HQ12 z12 z11 HB12 ⊢
          have d0 := R11.out.cell (j := 0) (by simp)
          have l11 := R11.out.lt
          simp only [List.getElem_cons_zero] at d0
          clear hR11 hb12 z12
          go_wp2_with (at_builtin; refine wpList_app_seq (E := cellE) (S := fun b => b ≠ B11) (Sy := fun b => b = w12.heap.size) (base := w9.heap.size) (wm := w12) (y := atomB) (vy := .slice (some ⟨w12.heap.size, 0, none⟩) 2 2) rfl (.tmp 78) (.tmp 82) 28 rfl Try.underlying28 infoSeq rfl HOwn12.out rfl Seq.way ((atomB_seq (heap_alloc_new w12 _)).at Seq.way) (fun b h _ => ⟨by omega, .inr (by omega)⟩) (by go_simp) (by omega) K12.out.size ?_)
          intro ao3 cap3 w13 hown13 hk13
          have hlen13 : (g.atoms ++ [atomB]).length = g.atoms.length + 1 := by simp
          have hbt : Below w12.heap.size w12 ((w12.alloc (.cells #[.int .i64 3, .string ⟨#[98]⟩, .int .i64 1, .int .i64 2, .string ⟨#[]⟩, .int .i64 0] 50)).alloc (.cells #[.slice (some ⟨w12.heap.size, 0, none⟩) 2 2] 51)) := Seq.way
          have zt := hbt.size
          have h13 : w13.heap[B11]? = w12.heap[B11]? := (hk13.keep B11 (by omega) fun e => by
            have := Hblk.out B11 e
            omega).trans (hbt.block B11 l11)
          have R13 := Lib.hid (R11.out.at h13)
          have K13 := Lib.hid ((K12.out.trans (hbt.mono K12.out.size)).trans hk13.below)
          have HA13 := Lib.hid (hown13.seqB (by rw [hlen13]; omega) (T := fun b => b ≠ B11) (by
            intro b hb h e
            rcases h with h | h
            · exact h e
            · rcases hk13.blk with h2 | h2
              · rw [h2] at h
                have := Hblk.out b h
                omega
              · rw [h2] at h
                simp only [Option.some.injEq] at h
                omega))
          have HQ13 := Lib.hid (HQ12.out.mono (w' := w13) (T := fun b => b ≠ B11) (fun b h _ e => by omega) fun b h hl => (hk13.keep b (by omega) fun e => by
            have := Hblk.out b e
            omega).trans (hbt.block b hl))
          have e0 := R13.out.cell (j := 0) (by simp)
          have l13 := R13.out.lt
          have bf := R13.out.frozen
          simp only [List.getElem_cons_zero] at e0
          clear d0 l11 hown13 hk13 hbt h13 HQ12 HOwn12 R11
          go_upto_region 12 with fail
          have hR14 := R13.out.set 0 (.slice ao3 (g.atoms.length + 1) cap3)
          have ho14 : Only B11 w13 (w13.setCell ⟨B11, 0, none⟩ (.slice ao3 (g.atoms.length + 1) cap3)) := (Only.refl B11 w13).set 0 _
          have hK14 : Below w9.heap.size w9 (w13.setCell ⟨B11, 0, none⟩ (.slice ao3 (g.atoms.length + 1) cap3)) := K13.out.setCell (p := ⟨B11, 0, none⟩) (by show w9.heap.size ≤ B11; omega) _
          have ha14 := HA13.out.mono (w' := w13.setCell ⟨B11, 0, none⟩ (.slice ao3 (g.atoms.length + 1) cap3)) (T := fun _ => True) (fun _ _ _ => trivial) fun b hb _ => ho14 b hb
          have hr14 := HQ13.out.mono (w' := w13.setCell ⟨B11, 0, none⟩ (.slice ao3 (g.atoms.length + 1) cap3)) (T := fun _ => True) (fun _ _ _ => trivial) fun b hb _ => ho14 b hb
          generalize w13.setCell ⟨B11, 0, none⟩ (.slice ao3 (g.atoms.length + 1) cap3) = w14 at hR14 hK14 ha14 hr14 ⊢
          simp only [List.set_cons_zero] at hR14
          have P2V := Lib.hid (progP2 HP2.out ha14 hr14)
          have P1V := Lib.hid (progP (HAtP.out.at hK14) (HR10.out.at hK14) HP1.out)
          have R14 := Lib.hid hR14
          have R10' := Lib.hid (rowTo R10.out hK14)
          have K14 := Lib.hid (HB9.out.trans (hK14.mono z9))
          clear hR14 ho14 hK14 ha14 hr14 e0 l13 bf HA13 HQ13 R13 K13 HAtP HR10 HB9 R10 HB12
          have hk14 : ∀ {W : World}, Below w14.heap.size w14 W → W.cell? ⟨B10, 0, none⟩ = some (.slice ga g.atoms.length gac) ∧ W.cell? ⟨B10, 1, none⟩ = some (.slice r1 (rulesL ps).length c1) ∧ W.cell? ⟨B11, 0, none⟩ = some (.slice ao3 (g.atoms.length + 1) cap3) ∧ W.cell? ⟨B11, 1, none⟩ = some (.slice ra2 (rulesL os).length rc2) := fun hW =>
            ⟨(rowTo R10'.out hW).cell (j := 0) (by simp), (rowTo R10'.out hW).cell (j := 1) (by simp), (rowTo R14.out hW).cell (j := 0) (by simp), (rowTo R14.out hW).cell (j := 1) (by simp)⟩
          have Hk14 := fun {W : World} (hW : Below w14.heap.size w14 W) => Lib.hid (hk14 hW)
          clear hk14
          go_upto_region 12 with fail
          (try simp only [List.append_eq, List.cons_append, List.nil_append])
          refine wp_region_noPanic ?_
          refine wp_region_held_drew (S := fun w' => w'.cell? ⟨B10, 0, none⟩ = some (.slice ga g.atoms.length gac) ∧ w'.cell? ⟨B10, 1, none⟩ = some (.slice r1 (rulesL ps).length c1) ∧ w'.cell? ⟨B11, 0, none⟩ = some (.slice ao3 (g.atoms.length + 1) cap3) ∧ w'.cell? ⟨B11, 1, none⟩ = some (.slice ra2 (rulesL os).length rc2)) (by kernel_rfl) ?_ (fun hHeld => ?_)
          · exact (Hk14 (Below.drew (Below.refl _ _))).out
          refine wpAnyH_take1 (i := 0) (oi := _) (v := ?_) (by kernel_rfl) rfl (by kernel_rfl) (fun _ _ _ h => h) (Or.inl ⟨by rfl, ?_⟩) (by assumption) ?_
          rotate_left 1
          · intro w hSw; (try dsimp only at hSw); go_simp; (with_reducible rfl)
          (try simp only [Act.put, List.getElem_toArray, List.getElem_cons_zero, List.setIfInBounds_toArray, List.set_cons_zero, List.set_cons_succ])
          refine wpAnyH_take1 (i := 2) (oi := _) (v := ?_) (by kernel_rfl) rfl (by kernel_rfl) (fun _ _ _ h => h) (Or.inl ⟨by rfl, ?_⟩) (by assumption) ?_
          rotate_left 1
          · intro w hSw; (try dsimp only at hSw); go_simp; (with_reducible rfl)
          (try simp only [Act.put, List.getElem_toArray, List.getElem_cons_zero, List.getElem_cons_succ, List.setIfInBounds_toArray, List.set_cons_zero, List.set_cons_succ])
          refine wpAnyH_take1 (i := 5) (oi := _) (v := ?_) (by kernel_rfl) rfl (by kernel_rfl) (fun _ _ _ h => h) (Or.inl ⟨by rfl, ?_⟩) (by assumption) ?_
          rotate_left 1
          · intro w hSw; (try dsimp only at hSw); go_simp; (with_reducible rfl)
          (try simp only [Act.put, List.getElem_toArray, List.getElem_cons_zero, List.getElem_cons_succ, List.setIfInBounds_toArray, List.set_cons_zero, List.set_cons_succ])
          refine wpAnyH_one (i := 1) (by kernel_rfl) rfl (by rfl) fun K hK => ?_
          go_simp
          refine (Follows_spec (P1V.out.at Seq.way) f1.toGoodP).mono ?_
          rintro e y1 ⟨vf, rfl, hy1, hq1⟩
          have HY1 := below_step hy1 (Seq.way : Below w14.heap.size w14 _)
          have zy1 := HY1.size
          (try dsimp only)
          clear hHeld
          refine hK.out _ _ (Hk14 HY1).out fun hHeld => ?_
          clear hK K
          (try simp only [Act.put, List.getElem_toArray, List.getElem_cons_zero, List.getElem_cons_succ, List.setIfInBounds_toArray, List.set_cons_zero, List.set_cons_succ])
          obtain ⟨fa, fc, rfl, -⟩ := id hq1
          have HQ1 := Lib.hid hq1
          clear hq1
          refine wpAnyH_one (i := 3) (by kernel_rfl) rfl (by rfl) fun K hK => ?_
          go_simp
          refine (ReduceP_spec (P1V.out.at Seq.way) f1 (Seq.nil intE (fun _ => True) _)).mono ?_
          rintro e y2 ⟨vp2, rfl, hy2, hp2⟩
          have HY2 := below_step hy2 (Seq.way : Below w14.heap.size w14 _)
          have zy2 := HY2.size
          (try dsimp only)
          clear hHeld
          refine hK.out _ _ (Hk14 HY2).out fun hHeld => ?_
          clear hK K
          (try simp only [Act.put, List.getElem_toArray, List.getElem_cons_zero, List.getElem_cons_succ, List.setIfInBounds_toArray, List.set_cons_zero, List.set_cons_succ])
          refine wpAnyH_one (i := 4) (by kernel_rfl) rfl (by rfl) fun K hK => ?_
          go_simp
          refine (TruthP_spec hp2 (reduceL_fine f1)).mono ?_
          rintro e y3 ⟨vt, rfl, hy3, hq3⟩
          have HY3 := below_step hy3 (Seq.way : Below w14.heap.size w14 _)
          have zy3 := HY3.size
          (try dsimp only)
          clear hHeld
          refine hK.out _ _ (Hk14 HY3).out fun hHeld => ?_
          clear hK K
          (try simp only [Act.put, List.getElem_toArray, List.getElem_cons_zero, List.getElem_cons_succ, List.setIfInBounds_toArray, List.set_cons_zero, List.set_cons_succ])
          obtain ⟨ta, tc, rfl, -⟩ := id hq3
          have HQ3 := Lib.hid hq3
          clear hq3 hp2
          refine wpAnyH_one (i := 6) (by kernel_rfl) rfl (by rfl) fun K hK => ?_
          go_simp
          refine (ReduceP_spec (P2V.out.at Seq.way) f2 (Seq.nil intE (fun _ => True) _)).mono ?_
          rintro e y4 ⟨vp4, rfl, hy4, hp4⟩
          have HY4 := below_step hy4 (Seq.way : Below w14.heap.size w14 _)
          have zy4 := HY4.size
          (try dsimp only)
          clear hHeld
          refine hK.out _ _ (Hk14 HY4).out fun hHeld => ?_
          clear hK K
          (try simp only [Act.put, List.getElem_toArray, List.getElem_cons_zero, List.getElem_cons_succ, List.setIfInBounds_toArray, List.set_cons_zero, List.set_cons_succ])
          refine wpAnyH_one (i := 7) (by kernel_rfl) rfl (by rfl) fun K hK => ?_
          go_simp
          refine (TruthP_spec hp4 (reduceL_fine f2)).mono ?_
          rintro e y5 ⟨vt, rfl, hy5, hq5⟩
          have HY5 := below_step hy5 (Seq.way : Below w14.heap.size w14 _)
          have zy5 := HY5.size
          (try dsimp only)
          clear hHeld
          refine hK.out _ _ (Hk14 HY5).out fun hHeld => ?_
          clear hK K
          (try simp only [Act.put, List.getElem_toArray, List.getElem_cons_zero, List.getElem_cons_succ, List.setIfInBounds_toArray, List.set_cons_zero, List.set_cons_succ])
          obtain ⟨tb, td, rfl, -⟩ := id hq5
          have HQ5 := Lib.hid hq5
          clear hq5 hp4
          refine wpAnyH_take1 (i := 8) (oi := _) (v := ?_) (by kernel_rfl) rfl (by kernel_rfl) (fun _ _ _ h => h) (Or.inl ⟨by rfl, ?_⟩) (by assumption) ?_
          rotate_left 1
          · intro w hSw; (try dsimp only at hSw); go_simp; (with_reducible rfl)
          (try simp only [Act.put, List.getElem_toArray, List.getElem_cons_zero, List.getElem_cons_succ, List.setIfInBounds_toArray, List.set_cons_zero, List.set_cons_succ])
          refine wpAnyH_take1 (i := 9) (oi := _) (v := ?_) (by kernel_rfl) rfl (by kernel_rfl) (fun _ _ _ h => h) (Or.inl ⟨by rfl, ?_⟩) (by assumption) ?_
          rotate_left 1
          · intro w hSw; (try dsimp only at hSw); go_simp; (with_reducible rfl)
          (try simp only [Act.put, List.getElem_toArray, List.getElem_cons_zero, List.getElem_cons_succ, List.setIfInBounds_toArray, List.set_cons_zero, List.set_cons_succ])
          refine wpAnyH_take1 (i := 10) (oi := _) (v := ?_) (by kernel_rfl) rfl (by kernel_rfl) (fun _ _ _ h => h) (Or.inl ⟨by rfl, ?_⟩) (by assumption) ?_
          rotate_left 1
          · intro w hSw; (try dsimp only at hSw); go_simp; (with_reducible rfl)
          (try simp only [Act.put, List.getElem_toArray, List.getElem_cons_zero, List.getElem_cons_succ, List.setIfInBounds_toArray, List.set_cons_zero, List.set_cons_succ])
          refine wpAnyH_done (by kernel_rfl) ?_ _
          refine NoPanic.normal ?_
          obtain ⟨hl1, hl2, hl3, hl4, hl5⟩ := hlaw.out
          have HBw := Lib.hid (HFF.out.bel.trans ((K14.out.trans (HY5.mono K14.out.size)).mono HFF.out.bel.size))
          have w25 := (hy2.trans (hy3.mono hy2.size)).trans ((hy4.trans (hy5.mono hy4.size)).mono (hy2.trans (hy3.mono hy2.size)).size)
          have w35 := hy4.trans (hy5.mono hy4.size)
          have HF' := HQ1.out.at w25
          have HT' := HQ3.out.at w35
          have HU' := HQ5.out
          have la := hl1.trans hl2
          clear hlaw w25 w35 HY1 HY2 HY3 HY4 HY5 hy1 hy2 hy3 hy4 hy5 HQ1 HQ3 HQ5
          generalize followsL P1 = F at hl2 hl5 HF' ⊢
          generalize truthL (reduceL P1 []) = A at la hl5 HT' ⊢
          generalize truthL (reduceL P2 []) = B at hl3 hl4 hl5 HU' ⊢
          obtain ⟨bf, of, rfl, lf, hcF⟩ := seq_bools HF' (by omega)
          obtain ⟨ba, oa, rfl, lA, hcA⟩ := seq_ints HT' (by omega)
          obtain ⟨bb, ob, rfl, lB, hcB⟩ := seq_ints HU' (by omega)
          rw [hl2, la, hl3]
          have cb := hcB _ _ hl4
          have HL5 := Lib.hid hl5
          have HcF := Lib.hid hcF
          have HcA := Lib.hid hcA
          have HcB := Lib.hid hcB
          clear hl1 hl2 hl3 hl4 hl5 hcF hcA hcB HF' HT' HU' la
          obtain ⟨N, hN⟩ : ∃ N, N = g.atoms.length := ⟨_, rfl⟩
          rw [← hN] at cb HL5 hal ⊢
          clear hN
          have hN0 : (0 : Int) ≤ (N : Int) := by omega
          have hN1 : (N : Int) < (N : Int) + 1 := by omega
          have hN9 : N ≤ 140737488355328 := by omega
          go_wp2_with fail
          go_loopw [15] (fun i wr => ∃ j : Nat, j ≤ N ∧ i = .int .i64 j ∧ Drew y5 wr) (fun i _ => N - (intOf i).toNat)
          case atStart => exact ⟨0, Nat.zero_le _, rfl, Drew.refl _⟩
          case round =>
            obtain ⟨j, hj, rfl, hdr⟩ := hrel
            obtain ⟨q, rfl⟩ := hdr
            by_cases hlt : j < N
            · obtain ⟨f, hf1, hf2, hf3⟩ := HL5.out j hlt
              have k1 := HcF.out j f hf1
              have k2 := HcA.out j _ hf2
              have k3 := HcB.out j _ hf3
              have hjl : (j : Int) < (N : Int) := by omega
              have hjm : (j : Int) < (N : Int) + 1 := by omega
              have hj0 : (0 : Int) ≤ (j : Int) := by omega
              clear hf1 hf2 hf3 cb
              cases f
              all_goals
                simp only [if_true, Bool.false_eq_true, if_false] at k2 k3
                go_wp2_with fail
                go_quiet (fail)
                go_wp2_with fail
                go_roundw
                case rel => exact ⟨j + 1, hlt, by go_num, (by repeat (first | exact Drew.of _ _ | refine Drew.drewN ?_ _))⟩
                case measure => simp [intOf]; omega
            · obtain rfl : j = N := by omega
              go_wp2_with fail
              go_ret
              exact ⟨rfl, below_drewN HBw.out _⟩
end Go.Proofs.Ytdbennmbbmoflaa
