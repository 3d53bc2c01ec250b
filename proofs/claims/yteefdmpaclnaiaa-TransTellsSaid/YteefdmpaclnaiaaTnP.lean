/-
  Layer 13, the laws' begun: a base on which a transaction is under way.
-/
import Derived.Test.YteefdmpaclnaiaaTnO
import Derived.Test.YteefdmpaclnaiaaAppW
import Derived.Deep.Cut
import Derived.Deep.CutRange
import Derived.Deep.DeepCutAuto
import Derived.Outline
namespace Go.Proofs.Yteefdmpaclnaiaa
open Go Go.RowKit

section
variable {P : Program} {ops : Array Oper} {rest : List Oper} {o : Oper} {a : Act} {Q : Exit → Act → World → Prop}
theorem wpList_app_chgW {S Sy : Nat → Prop} {w : World} (hgd : o.guard = none) (s x : Operand) (t : TypeId)
    (ho : o.op = .call { callee := .builtin .append, args := #[s, x], argTypes := #[t, t] })
    {base : Nat} {e : TypeId} (ht : P.underlying t = some (.slice e)) (hi : (P.info? e).map (fun i => (i.zero, i.size, i.bytes)) = some (some (.agg #[.bool false, .slice none 0 0]), 2, 32))
    {v : Value} {xs : List Chg} (hs : a.eval s = v) (hown : Own changeE S base e w v xs) {B c : Nat} (hx : a.eval x = .slice (some ⟨B, 0, none⟩) 1 c)
    {y : Chg} {vt : Value} (hy : Seq cellE Sy w vt y.t) (hS : ∀ b, Sy b → b < w.heap.size → S b ∧ v.ownBlock ≠ some b)
    (hc0 : w.cell? ⟨B, 0, none⟩ = some (.bool y.add)) (hc1 : w.cell? ⟨B, 1, none⟩ = some vt) (hbytes : xs.length ≤ 1000000000000) (hbase : base ≤ w.heap.size)
    (h : ∀ ao cap w', Own changeE S base e w' (.slice ao (xs.length + 1) cap) (xs ++ [y]) → KeptW base w w' v (.slice ao (xs.length + 1) cap) → wpList P ops Q rest (a.put o.dst (.slice ao (xs.length + 1) cap)) w') : wpList P ops Q (o :: rest) a w :=
  wpList_app1W (E := changeE) (Sy := Sy) (y := y) (cs := [.bool y.add, vt]) hgd s x t ho ht hi rfl hs hown _ _ hx ⟨vt, rfl, hy⟩ hS
    (by
      intro j hj
      have h3 : j < 2 := hj
      rcases (show j = 0 ∨ j = 1 by omega) with rfl | rfl
      · exact hc0
      · exact hc1) (by omega) (by simp only [maxLen]; omega) hbase h
end

def begunL (l : List Chg) : List Chg := (l.take 60).map fun c => ⟨c.add, factM c.t⟩
def begunO (b : Bas) (l : List Chg) : Bas := { b with on := true, todo := b.todo ++ begunL l }
theorem begunL_at {l : List Chg} {k : Nat} (hk : k < (begunL l).length) : ∃ h : k < l.length, (begunL l)[k] = ⟨l[k].add, factM l[k].t⟩ := by
  unfold begunL at *
  simp only [List.length_map, List.length_take] at hk
  exact ⟨by omega, by simp⟩
theorem beginO_eq (b : Bas) : beginO b = { b with on := true } := by
  unfold beginO
  split
  · rename_i h; cases b; simp_all
  · rfl

theorem Row.drewE {T : TypeId} {w : World} {B : Nat} {vs : List Value} (h : Row T w B vs) : Row T w.drew B vs := h.at rfl
theorem Row.set4 {T : TypeId} {w : World} {B : Nat} {a b c d p q r s : Value} (h : Row T w B [a, b, c, d]) :
    Row T ((((w.setCell ⟨B, 0, none⟩ p).setCell ⟨B, 1, none⟩ q).setCell ⟨B, 2, none⟩ r).setCell ⟨B, 3, none⟩ s) B [p, q, r, s] :=
  (((h.set 0 p).set 1 q).set 2 r).set 3 s
theorem Row.other4 {T : TypeId} {w : World} {B g : Nat} {vs : List Value} {p q r s : Value} (h : Row T w B vs) (hg : B ≠ g) :
    Row T ((((w.setCell ⟨g, 0, none⟩ p).setCell ⟨g, 1, none⟩ q).setCell ⟨g, 2, none⟩ r).setCell ⟨g, 3, none⟩ s) B vs :=
  h.at (heap_set4 hg)

/-- What stands at the head of begun's loop. -/
structure BegM (S : Nat → Prop) (w wr : World) (b : Bas) (L : List Chg) (k : Nat) (d : Value) : Prop where
  bel : Below w.heap.size w wr
  box : ∃ fa fc ta tc, Row 25 wr w.heap.size [.slice fa b.facts.length fc, .int .i64 b.ver, .bool true, .slice ta (b.todo.length + k) tc] ∧
    BasV (fun x => (S x ∧ x < w.heap.size ∨ w.heap.size + 2 ≤ x) ∧ d.ownBlock ≠ some x) wr (.agg #[.slice fa b.facts.length fc, .int .i64 b.ver, .bool true, .slice ta (b.todo.length + k) tc]) { b with on := true, todo := b.todo ++ L.take k }
  res : Row 25 wr (w.heap.size + 1) [.slice none 0 0, .int .i64 0, .bool false, .slice none 0 0]
  own : Own changeE (fun x => w.heap.size + 2 ≤ x) (w.heap.size + 2) 32 wr d (L.take k)

set_option maxHeartbeats 4000000 in
set_option maxRecDepth 100000 in
theorem begun_spec {S T : Nat → Prop} {w : World} {v u : Value} {b : Bas} {l : List Chg} (hb : BasV S w v b) (hl : Seq changeE T w u l) (hlen : b.todo.length ≤ 1000) :
    Calls Try.prog 30 #[v, u] w (Ret2 (fun o d w' => BasV (Fr S w) w' o (begunO b l) ∧ Seq changeE (fun x => w.heap.size ≤ x) w' d (begunL l)) w) := by
  have Hb := Lib.hid hb.bnd
  obtain ⟨fa, fc, ta, tc, rfl, h1, h2, h3⟩ := hb
  obtain ⟨la, lc, rfl, -, -, hal, -, h5⟩ := hl
  obtain ⟨L, hL⟩ : ∃ L, L = begunL l := ⟨_, rfl⟩
  have hLat := Lib.hid (fun k (hk : k < (begunL l).length) => begunL_at hk)
  have hLlen : L.length = min l.length 60 := by rw [hL]; unfold begunL; simp; omega
  have HL := Lib.hid hL
  have HLlen := Lib.hid hLlen
  clear h2 h3 hL hLlen
  go_enter Try.func30, Try.ntmps30
  go_wp2_with fail
  refine (BeginP_spec (Hb.out.at Seq.way)).mono ?_
  rintro e w1 ⟨o1, rfl, hb1, ho1⟩
  have hz1 := hb1.size
  simp at hz1
  have hbw1 := Lib.hid (below_step hb1 (Seq.way : Below w.heap.size w _))
  have R0 := Lib.hid ((Row.new _ [_, _, _, _] _ rfl : Row 25 _ w.heap.size _).alloc (.cells #[.slice none 0 0, .int .i64 0, .bool false, .slice none 0 0] 25) |>.below hb1 (by simp <;> omega))
  have R1 := Lib.hid ((Row.new _ [_, _, _, _] _ (by simp) : Row 25 _ (w.heap.size + 1) _).below hb1 (by simp))
  obtain ⟨c0, c1, c2, c3, d0, d1, d2, d3⟩ := R0.out.four
  rw [beginO_eq] at ho1
  obtain ⟨ga, gc, ua, uc, rfl, hi, hs, ht⟩ := ho1
  have Hs := Lib.hid hs
  have Ht := Lib.hid ht
  clear hs ht hb1
  go_wp2_with fail
  have hlw : ∀ {w' : World}, Below w.heap.size w w' → SeqAt changeE T w' la l := fun h => h5.below h fun _ _ h => h
  have Hlw := fun {w' : World} (h : Below w.heap.size w w') => Lib.hid (hlw h)
  obtain ⟨W, hW⟩ : ∃ W, W = (((((w1.setCell ⟨w.heap.size, 0, none⟩ (.slice ga b.facts.length gc)).setCell ⟨w.heap.size, 1, none⟩ (.int .i64 b.ver)).setCell ⟨w.heap.size, 2, none⟩ (.bool true)).setCell ⟨w.heap.size, 3, none⟩ (.slice ua b.todo.length uc)).alloc (.cells #[] 32)) := ⟨_, rfl⟩
  have hM0 := Lib.hid (show BegM S w W b L 0 (.slice (some ⟨w1.heap.size, 0, none⟩) 0 0) from by
    have hbs := below_set4 (B := w.heap.size) (g := w.heap.size) (p := .slice ga b.facts.length gc) (q := .int .i64 b.ver) (r := .bool true) (s := .slice ua b.todo.length uc) hbw1.out (Nat.le_refl _)
    have hsz : ∀ p q r s, ((((w1.setCell ⟨w.heap.size, 0, none⟩ p).setCell ⟨w.heap.size, 1, none⟩ q).setCell ⟨w.heap.size, 2, none⟩ r).setCell ⟨w.heap.size, 3, none⟩ s).heap.size = w1.heap.size := fun p q r s => by simp
    have hx : ∀ {α : Type} {E : Elt α} {u : Value} {xs : List α}, Seq E (fun b => S b ∧ b < w.heap.size) w1 u xs → Seq E (fun x => (S x ∧ x < w.heap.size ∨ w.heap.size + 2 ≤ x) ∧ (Value.slice (some ⟨w1.heap.size, 0, none⟩) 0 0).ownBlock ≠ some x) W u xs :=
      fun h => h.mono (fun x hx hlt => ⟨.inl hx, by simp [Value.ownBlock]; omega⟩) fun x hx hlt => by
        rw [hW, Below.heap_alloc _ _ _ (by rw [hsz]; exact hlt), heap_set4 (by omega)]
    have hlz : w1.heap.size < W.heap.size := by rw [hW]; simp
    rw [hW] at *
    refine ⟨hbs.alloc (by rw [hsz]; omega) _, ⟨ga, gc, ua, uc, ?_, ?_⟩, ?_, ?_⟩
    · exact R0.out.set4.alloc _
    · exact ⟨ga, gc, ua, uc, by simp, hi, hx Hs.out, by simpa using hx Ht.out⟩
    · exact (R1.out.other4 (by omega)).alloc _
    · exact Own.lit0 (by rw [hsz]) (by omega) (by simp))
  rw [← hW]
  clear hW R0 R1 c0 c1 c2 c3 d0 d1 d2 d3 Hs Ht hlw h5
  go_loopw [6, 7] (fun d i wr => ∃ k : Nat, k ≤ L.length ∧ i = .int .i64 k ∧ BegM S w wr b L k d) (fun _ i _ => L.length - (intOf i).toNat)
  case atStart => exact ⟨0, Nat.zero_le _, rfl, hM0.out⟩
  case round =>
    obtain ⟨k, hk, rfl, hM⟩ := hrel
    have hzr := hM.bel.size
    have HM := Lib.hid hM
    obtain ⟨hbr, ⟨fa, fc, ta, tc, hr0, hbv⟩, hr1, hown⟩ := hM
    obtain ⟨da, dc, rfl, -⟩ := id hown.shape
    have hlk : (L.take k).length = k := by rw [List.length_take]; omega
    rw [hlk] at HM hown hbv ⊢
    clear hlk
    obtain ⟨c0, c1, c2, c3, d0, d1, d2, d3⟩ := hr0.four
    obtain ⟨q0, q1, q2, q3, g0, g1, g2, g3⟩ := hr1.four
    have R0 := Lib.hid hr0
    have R1 := Lib.hid hr1
    have HB := Lib.hid hbv
    have HO := Lib.hid hown
    have Hbr := Lib.hid hbr
    have hR0l := hr0.lt
    have hR1l := hr1.lt
    clear hr0 hr1 hbv hown
    by_cases hlt : k < L.length
    · obtain ⟨hkl', hLk⟩ := hLat.out k (by rw [← HL.out]; exact hlt)
      obtain ⟨b1, o1, pa, pc, rfl, -, hlb, e0, e1, hX⟩ := (Hlw Hbr.out).out.chg hkl'
      have hLs := Lib.hid (show L.take (k + 1) = L.take k ++ [⟨l[k].add, factM l[k].t⟩] by
        rw [List.take_succ_eq_append_getElem hlt, ← hLk]
        simp only [HL.out])
      obtain ⟨⟨xa, xt⟩, hxe⟩ : ∃ x, x = l[k] := ⟨_, rfl⟩
      rw [← hxe] at hLs e0 e1 hX
      dsimp only at hLs e0 e1 hX
      have HX := Lib.hid hX
      have He := fun {w' : World} (h : Below wr.heap.size wr w') => Lib.hid (show w'.cell? ⟨b1, o1 + k * 2, none⟩ = some (.bool xa) ∧ w'.cell? ⟨b1, o1 + k * 2 + 1, none⟩ = some (.slice pa xt.length pc) from ⟨(h.cell hlb).trans e0, (h.cell hlb).trans e1⟩)
      have hfm := Lib.hid (factM_fact xt).1
      clear hxe hX hLk
      have hkl : (k : Int) < (l.length : Int) := by omega
      have hk60 : (k : Int) < 60 := by have := HLlen.out; omega
      have hk0 : (0 : Int) ≤ (k : Int) := by omega
      go_upto_region 6 with fail
      go_cut [8] (fun s8 wx => ∃ g v8, s8 = .pointer (some ⟨g, 0, none⟩) ∧ wr.heap.size ≤ g ∧ Row 32 wx g [.bool xa, v8] ∧ Seq cellE (fun b => wr.heap.size ≤ b) wx v8 (factM xt) ∧ Below wr.heap.size wr wx)
      case first =>
        go_region_held3 (fun w' => w'.cell? ⟨b1, o1 + k * 2, none⟩ = some (.bool xa) ∧ w'.cell? ⟨b1, o1 + k * 2 + 1, none⟩ = some (.slice pa xt.length pc))
          (first | exact (He (Below.set1 (Below.set1 HB5 (Nat.le_refl _)) (Nat.le_refl _))).out | exact (He Seq.way).out | go_keep)
          (first
            | (go_at_call 31; refine (MadeR_spec (w := wr.drew) (HX.out.at Seq.way)).mono ?_; rintro e w5 ⟨v5, rfl, hb5, hp5⟩; have HB5 := below_step hb5 (Seq.way : Below wr.heap.size wr wr.drew); have zz5 := HB5.size; obtain ⟨va5, vc5, rfl⟩ := hp5.shape)
            | (go_at_call 31; refine (MadeR_spec (w := (wr.alloc (.cells #[.bool false, .slice none 0 0] 32)).drew) (HX.out.at Seq.way)).mono ?_; rintro e w5 ⟨v5, rfl, hb5, hp5⟩; have HB5 := below_step hb5 (Seq.way : Below wr.heap.size wr (wr.alloc (.cells #[.bool false, .slice none 0 0] 32)).drew); have zz5 := HB5.size; have r5 := rowTo (Row.drewE (Row.new wr [.bool false, .slice none 0 0] 32 rfl)) hb5; obtain ⟨x50, x51⟩ := r5.two; have x52 := r5.frozen 0; have x53 := r5.frozen 1; obtain ⟨va5, vc5, rfl⟩ := hp5.shape))
        · go_wp2_with fail
          go_meet
          exact ⟨_, _, rfl, by omega, Row.new w5 [_, _] _ rfl, (hp5.at Seq.way).mono (fun b h _ => by simpa using h) fun _ _ _ => rfl, HB5.alloc zz5 _⟩
        · go_wp2_with fail
          go_meet
          refine ⟨_, _, rfl, Nat.le_refl _, ((r5.set 0 _).set 1 _), hp5.mono (fun b h _ => ?_) (fun b h _ => ?_), Below.set1 (Below.set1 HB5 (Nat.le_refl _)) (Nat.le_refl _)⟩
          · simp at h; omega
          · simp at h
            rw [Below.heap_setCell _ _ _ _ (fun e => by have e' : b = wr.heap.size := e; omega), Below.heap_setCell _ _ _ _ (fun e => by have e' : b = wr.heap.size := e; omega)]
      case rest =>
        obtain ⟨g, v8, rfl, hg, hr8, hv8, hbx⟩ := hcut
        obtain ⟨wx, rfl⟩ : ∃ wx, wx = wc := ⟨_, rfl⟩
        have hzx := hbx.size
        have Hv8 := Lib.hid hv8
        obtain ⟨va, vc, rfl⟩ := hv8.shape
        obtain ⟨x0, x1⟩ := hr8.two
        have hg8 := hr8.lt
        have R8 := Lib.hid hr8
        obtain ⟨c0, c1, c2, c3, d0, d1, d2, d3⟩ := (R0.out.below hbx hR0l).four
        have hown9 := Lib.hid (fun x (h : (Value.slice da k dc).ownBlock = some x) => HO.out.blk h)
        have HBx := Lib.hid (HB.out.at hbx)
        have Hc8 := Lib.hid (show ChgV (fun x => (S x ∧ x < w.heap.size ∨ w.heap.size + 2 ≤ x) ∧ (Value.slice da k dc).ownBlock ≠ some x) wx (.agg #[.bool xa, .slice va (factM xt).length vc]) ⟨xa, factM xt⟩ from
          ⟨va, vc, rfl, Hv8.out.mono (fun x hx _ => ⟨.inr (by omega), fun e => by have := (hown9.out x e).2; omega⟩) fun _ _ _ => rfl⟩)
        have hcN := Lib.hid (show ∀ bb : Bas, bb.on = true → changeN bb ⟨xa, factM xt⟩ = 0 ∧ changeO bb ⟨xa, factM xt⟩ = { bb with todo := bb.todo ++ [⟨xa, factM xt⟩] } from fun bb h => by
          unfold changeN changeO
          rw [if_pos h, if_pos hfm.out, if_pos ⟨h, hfm.out⟩]; exact ⟨rfl, rfl⟩)
        have hlk : (b.todo ++ L.take k).length = b.todo.length + k := by rw [List.length_append, List.length_take]; omega
        have hl8 : (b.todo ++ L.take k).length ≤ 1000000 := by have := HLlen.out; omega
        clear hv8 hr8 e0 e1 q0 q1 q2 q3 g0 g1 g2 g3
        go_wp2_with fail
        refine (ChangeP_spec HBx.out Hc8.out hl8).mono ?_
        rintro e w2 ⟨o2, rfl, hb2, ho2⟩
        rw [(hcN.out _ rfl).1]
        rw [(hcN.out _ rfl).2] at ho2
        have hz2 := hb2.size
        have hbx2 := Lib.hid (below_step hb2 hbx)
        have R02 := Lib.hid (R0.out.below hbx2.out hR0l)
        have R12 := Lib.hid (R1.out.below hbx2.out hR1l)
        have R82 := Lib.hid (R8.out.below hb2 hg8)
        obtain ⟨c0, c1, c2, c3, d0, d1, d2, d3⟩ := R02.out.four
        obtain ⟨x0, x1⟩ := R82.out.two
        obtain ⟨ga, gc, ua, uc, rfl, hi, hs, ht⟩ := ho2
        have Hs := Lib.hid hs
        have Ht := Lib.hid ht
        have y0 : w.heap.size < w2.heap.size := R02.out.lt
        have y1 : g < w2.heap.size := R82.out.lt
        have y2 : w.heap.size < w2.heap.size + 1 := by omega
        have y3 : g < w2.heap.size + 1 := by omega
        have y4 : g ≠ w.heap.size := by omega
        have y5 : w.heap.size ≠ g := by omega
        clear hs ht
        go_upto_region 10 with fail
        obtain ⟨w3, hw3⟩ : ∃ w3, w3 = (((((w2.setCell ⟨w.heap.size, 0, none⟩ (.slice ga b.facts.length gc)).setCell ⟨w.heap.size, 1, none⟩ (.int .i64 b.ver)).setCell ⟨w.heap.size, 2, none⟩ (.bool true)).setCell ⟨w.heap.size, 3, none⟩ (.slice ua (b.todo.length + (k + 1)) uc)).alloc (.cells #[.slice ga b.facts.length gc, .int .i64 b.ver, .bool true, .slice ua (b.todo.length + (k + 1)) uc] 25)) := ⟨_, rfl⟩
        have hset : ∀ p q r s, ((((w2.setCell ⟨w.heap.size, 0, none⟩ p).setCell ⟨w.heap.size, 1, none⟩ q).setCell ⟨w.heap.size, 2, none⟩ r).setCell ⟨w.heap.size, 3, none⟩ s).heap.size = w2.heap.size := fun p q r s => by simp
        have h3s : w3.heap.size = w2.heap.size + 1 := by rw [hw3, World.size_alloc, hset]
        have h3k : ∀ x, x ≠ w.heap.size → x < w2.heap.size → w3.heap[x]? = w2.heap[x]? := fun x hx hlt => by
          rw [hw3, Below.heap_alloc _ _ _ (by rw [hset]; exact hlt), heap_set4 hx]
        have hb3 : Below w.heap.size w w3 := by
          rw [hw3]
          exact (below_set4 (below_step hbx2.out Hbr.out) (Nat.le_refl _)).alloc (by rw [hset]; omega) _
        have r03 : Row 25 w3 w.heap.size [.slice ga b.facts.length gc, .int .i64 b.ver, .bool true, .slice ua (b.todo.length + (k + 1)) uc] := by
          rw [hw3]; exact R02.out.set4.alloc _
        have r13 : Row 25 w3 (w.heap.size + 1) [.slice none 0 0, .int .i64 0, .bool false, .slice none 0 0] := R12.out.at (h3k _ (by omega) R12.out.lt)
        have r83 : Row 32 w3 g [.bool xa, .slice va (factM xt).length vc] := R82.out.at (h3k _ (by omega) R82.out.lt)
        have hk3 : ∀ {α : Type} {E : Elt α} {u : Value} {xs : List α}, Seq E (Fr (fun x => (S x ∧ x < w.heap.size ∨ w.heap.size + 2 ≤ x) ∧ (Value.slice da k dc).ownBlock ≠ some x) wx) w2 u xs → Seq E (fun x => (S x ∧ x < w.heap.size ∨ w.heap.size + 2 ≤ x) ∧ (Value.slice da k dc).ownBlock ≠ some x) w3 u xs :=
          fun h => h.mono (fun x hx _ => hx.elim id fun h => ⟨.inr (by omega), fun e => by have := (hown9.out x e).2; omega⟩) fun x hx hlt => h3k x (hx.elim (fun h => h.1.elim (fun h => by omega) fun h => by omega) fun h => by omega) hlt
        have hs3 := Lib.hid (hk3 Hs.out)
        have ht3 := Lib.hid (hk3 Ht.out)
        have ho3 := Lib.hid (show Own changeE (fun x => w.heap.size + 2 ≤ x) (w.heap.size + 2) 32 w3 (.slice da k dc) (L.take k) from
          (HO.out.move hbx2.out).moveO (fun x hlt h => h3k x (by have := (hown9.out x h).1; omega) hlt) fun x hlt h => h3k x (by omega) hlt)
        have hv3 := Lib.hid (show Seq cellE (fun x => w.heap.size + 2 ≤ x ∧ (Value.slice da k dc).ownBlock ≠ some x) w3 (.slice va (factM xt).length vc) (factM xt) from
          ((Hv8.out.at hb2).mono (fun x hx _ => hx) fun x hx hlt => h3k x (by omega) hlt).mono (fun x hx _ => ⟨by omega, fun e => by have := (hown9.out x e).2; omega⟩) fun _ _ _ => rfl)
        have R03 := Lib.hid r03
        have R13 := Lib.hid r13
        have Hb3 := Lib.hid hb3
        obtain ⟨x0, x1⟩ := r83.two
        have hg3 := r83.lt
        rw [← hw3]
        have H3s := Lib.hid h3s
        clear h3s hw3 hset hk3 h3k r03 r13 hb3 r83 c0 c1 c2 c3 d0 d1 d2 d3 Hs Ht HM y0 y1 y2 y3 y4 y5 hlk
        go_wp2_with (at_builtin; refine wpList_app_chgW (S := fun x => w.heap.size + 2 ≤ x) (base := w.heap.size + 2) (y := ⟨xa, factM xt⟩) (xs := L.take k) (v := .slice da k dc) rfl _ _ 23 rfl Try.underlying23 infoChg rfl (ho3.out.move Seq.way) rfl (hv3.out.at Seq.way) (fun x h _ => h) (by simp) (by simp) (by rw [List.length_take]; omega) (by have := H3s.out; simp; omega) ?_)
        intro ao4 cap4 w4 hown4 hkept
        have hM4 := Lib.hid (show BegM S w w4 b L (k + 1) (.slice ao4 (k + 1) cap4) from by
          have h3s := H3s.out
          have hk4 : ∀ x, x < w3.heap.size → (Value.slice da k dc).ownBlock ≠ some x → w4.heap[x]? = w3.heap[x]? := fun x hx hne => by
            rw [hkept.keep x (by simp; omega) hne, Below.heap_alloc _ _ _ hx]
          have hne4 : ∀ x, x < w3.heap.size → (Value.slice da k dc).ownBlock ≠ some x → (Value.slice ao4 (k + 1) cap4).ownBlock ≠ some x := fun x hx hne => by
            rcases hkept.blk with h | h
            · rw [h]; exact hne
            · rw [h]; simp; omega
          have hno : ∀ x, x < w.heap.size + 2 → (Value.slice da k dc).ownBlock ≠ some x := fun x hx e => by have := (hown9.out x e).1; omega
          have hall : ∀ {α : Type} {E : Elt α} {u : Value} {xs : List α}, Seq E (fun x => (S x ∧ x < w.heap.size ∨ w.heap.size + 2 ≤ x) ∧ (Value.slice da k dc).ownBlock ≠ some x) w3 u xs → Seq E (fun x => (S x ∧ x < w.heap.size ∨ w.heap.size + 2 ≤ x) ∧ (Value.slice ao4 (k + 1) cap4).ownBlock ≠ some x) w4 u xs :=
            fun h => h.mono (fun x hx hlt => ⟨hx.1, hne4 x hlt hx.2⟩) fun x hx hlt => hk4 x hlt hx.2
          refine ⟨Hb3.out.trans ((Seq.way : Below w.heap.size w3 _).trans (hkept.below.mono (by omega))), ⟨ga, gc, ua, uc, ?_, ga, gc, ua, uc, ?_, hi, hall hs3.out, ?_⟩, ?_, ?_⟩
          · exact R03.out.at (hk4 _ (by omega) (hno _ (by omega)))
          · simp only [List.length_append, List.length_take]
            rw [show min (k + 1) L.length = k + 1 by omega]
          · have h4 := hall ht3.out
            dsimp only
            rw [hLs.out, ← List.append_assoc]
            exact h4
          · exact R13.out.at (hk4 _ (by omega) (hno _ (by omega)))
          · rw [hLs.out]; exact hown4)
        clear hown4 hkept hs3 ht3 ho3 hv3 R03 R13 Hb3 H3s
        go_wp2_with fail
        go_roundw
        case rel => exact ⟨k + 1, hlt, by go_num, hM4.out⟩
        case measure => simp [intOf]; omega
    · obtain rfl : k = L.length := by omega
      rw [List.take_length] at HO HB
      have hBV := Lib.hid (show BasV (fun x => (S x ∧ x < w.heap.size ∨ w.heap.size + 2 ≤ x) ∧ (Value.slice da L.length dc).ownBlock ≠ some x) wr (.agg #[.slice fa b.facts.length fc, .int .i64 b.ver, .bool true, .slice ta (b.todo.length + L.length) tc]) (begunO b l) by
        unfold begunO; rw [← HL.out]; exact HB.out)
      have hall : (w' : World) → Below w.heap.size w w' → (∀ x, x ≠ w.heap.size + 1 → w'.heap[x]? = wr.heap[x]?) → BasV (Fr S w) w' (.agg #[.slice fa b.facts.length fc, .int .i64 b.ver, .bool true, .slice ta (b.todo.length + L.length) tc]) (begunO b l) ∧ Seq changeE (fun x => w.heap.size ≤ x) w' (.slice da L.length dc) (begunL l) := fun w' h1 h2 =>
        ⟨hBV.out.mono (fun x hx _ => hx.1.elim (fun h => .inl h.1) fun h => .inr (by omega)) fun x hx _ => h2 x (hx.1.elim (fun h => by omega) fun h => by omega),
         by rw [← HL.out]; exact ((show Seq changeE (fun x => w.heap.size + 2 ≤ x) wr (.slice da L.length dc) L from HO.out.seq (by have := HLlen.out; omega) (fun x _ h => h.elim id id)).mono (fun x hx _ => by omega) fun x hx _ => h2 x (by omega))⟩
      have Hall := Lib.hid hall
      clear hall
      by_cases hll : (L.length : Int) < l.length
      · have hn60 : ¬ (L.length : Int) < 60 := by have := HLlen.out; omega
        go_wp2_with fail
        refine bodyPost_ret (v := .tuple #[.agg #[.slice fa b.facts.length fc, .int .i64 b.ver, .bool true, .slice ta (b.todo.length + L.length) tc], .slice da L.length dc]) (by simp [results, Try.results30, go_sem, q0, q1, q2, q3]) rfl ?_
        have hbf := below_set4 (g := w.heap.size + 1) (p := .slice fa b.facts.length fc) (q := .int .i64 b.ver) (r := .bool true) (s := .slice ta (b.todo.length + L.length) tc) Hbr.out (by omega)
        exact ⟨_, _, rfl, hbf, (Hall.out _ hbf fun x hx => heap_set4 hx).1, (Hall.out _ hbf fun x hx => heap_set4 hx).2⟩
      · go_wp2_with fail
        refine bodyPost_ret (v := .tuple #[.agg #[.slice fa b.facts.length fc, .int .i64 b.ver, .bool true, .slice ta (b.todo.length + L.length) tc], .slice da L.length dc]) (by simp [results, Try.results30, go_sem, q0, q1, q2, q3]) rfl ?_
        have hbf := below_set4 (g := w.heap.size + 1) (p := .slice fa b.facts.length fc) (q := .int .i64 b.ver) (r := .bool true) (s := .slice ta (b.todo.length + L.length) tc) Hbr.out (by omega)
        exact ⟨_, _, rfl, hbf, (Hall.out _ hbf fun x hx => heap_set4 hx).1, (Hall.out _ hbf fun x hx => heap_set4 hx).2⟩
end Go.Proofs.Yteefdmpaclnaiaa
