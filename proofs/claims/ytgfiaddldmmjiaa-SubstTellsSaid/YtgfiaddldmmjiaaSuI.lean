/-
  Layer 2, the program: cells, the iterator (a closure that holds a map and a term).
-/
import Derived.Test.YtgfiaddldmmjiaaSuH
import Derived.RangeFuncNested
import Derived.RangeFuncBound
import Derived.RangeFuncCalls
import Derived.RangeFuncLeaves
import Derived.RangeFuncBox
import Derived.Shelf.Abstract
import Derived.Shelf.RegionOpen
import Derived.OwnWalkIn
import Derived.TacticsInMore
import Derived.LoopNIn
import Derived.LoopIn
import Derived.Maps.OwnIn
namespace Go.Proofs.Ytgfiaddldmmjiaa
open Go Go.RowKit Go.Shelf

attribute [local go_sem] Oper.semAt_some

section
variable {F : Fence} {nF : Nat} {P : Program} {ops : Array Oper} {rest : List Oper} {o : Oper} {a : Act} {Q : Exit → Act → World → Prop}
/-- 'v, ok := m[k]', the value known. -/
theorem wpListIn_look (w : World) (hg : o.guard = none) (m x : Operand) (t : TypeId) (hop : o.op = Op.lookup t m x true)
    (k e : TypeId) (K : Go.Maps.Keyed P k) (ht : P.underlying t = some (.map k e)) {z : Value} (hz : (zeroValue e).run P w = .ok z w) (b n : Nat) (D : DataW Value)
    (hm : a.eval m = .map (some b)) (hown : w.ownsMap P k Rv b n D) (key : Value) (kl : Lit) (hx : a.eval x = key) (hkey : keyOf P k key = some kl)
    {v : Value} (hat : D.atKey kl (.held z) = .held v) {bo : Bool} (hbo : Maps.has D kl = bo)
    (hK : wpListIn F nF P ops Q rest (a.put o.dst (.tuple #[v, .bool bo])) w) : wpListIn F nF P ops Q (o :: rest) a w := by
  refine wpListIn_lookup_own_ok w hg m x t hop k e K ht Rv hz (.held z) [] rfl b n D hm hown key kl hx hkey fun v' ps hv => ?_
  unfold Rv at hv
  simp only [Option.some.injEq, Prod.mk.injEq] at hv
  rw [hat] at hv
  obtain ⟨h, -⟩ := hv
  injection h with h
  rw [h, hbo]; exact hK
end

/-- A cell as any call hands it over. -/
def CellW (c : Cell) : Prop := IntOK c.kind ∧ IntOK c.n ∧ c.name.size ≤ 140737488355328
abbrev FCell := { c : Cell // CellW c }
def valL (l : List FCell) : List Cell := l.map Subtype.val
theorem valL_snoc (l : List FCell) (x : FCell) : valL (l ++ [x]) = valL l ++ [x.1] := by simp [valL]
/-- What a round that goes on keeps: what lay below, and the map's box. -/
def KpM (n₀ Bm : Nat) (W W' : World) : Prop := Below n₀ W W' ∧ W'.heap[Bm]? = W.heap[Bm]?
theorem KpM.refl (n₀ Bm : Nat) (W : World) : KpM n₀ Bm W W := ⟨Below.refl _ _, rfl⟩
theorem KpM.trans {n₀ Bm : Nat} {A B C : World} (h : KpM n₀ Bm A B) (k : KpM n₀ Bm B C) : KpM n₀ Bm A C := ⟨h.1.trans k.1, k.2.trans h.2⟩
theorem KpM.alloc {n₀ Bm : Nat} {A B : World} (h : KpM n₀ Bm A B) (h1 : n₀ ≤ B.heap.size) (h2 : Bm < B.heap.size) (o : Obj) : KpM n₀ Bm A (B.alloc o) := ⟨h.1.alloc h1 o, (Below.heap_alloc _ _ _ h2).trans h.2⟩
theorem abidesAlloc {β : Type} {B : Nat} {J : β → World → Prop} (h : AbidesFrom B J) {s : β} {W : World} (o : Obj) (hs : J s W) : J s (W.alloc o) := h s W _ none hs (World.grownBy_alloc W o none) (fun r e => by cases e)

theorem putT_take {s : List Bnd} {t : List Cell} {k : Nat} (hk : k < t.length) (j : Nat) : putT s (t.take k) ++ (lookS s t[k]).take j <+: putT s t := by
  have h1 := putT_snoc (s := s) hk
  have h2 : putT s (t.take (k + 1)) <+: putT s t := by
    unfold putT
    rw [← List.take_append_drop (k + 1) t, List.flatMap_append]
    simp
  refine List.IsPrefix.trans ?_ h2
  rw [h1]
  exact (List.prefix_append_right_inj _).2 (List.take_prefix _ _)
theorem lookS_bound {s : List Bnd} {c : Cell} {t : List Cell} (h1 : c.kind = 1) (h2 : bindS s c.n = some t) : lookS s c = t := by
  unfold lookS; rw [if_pos h1, h2]; rfl
theorem lookS_free {s : List Bnd} {c : Cell} (h : c.kind ≠ 1 ∨ bindS s c.n = none) : lookS s c = [c] := by
  unfold lookS
  split
  · rcases h with h | h
    · contradiction
    · rw [h]; rfl
  · rfl

set_option maxRecDepth 100000 in
set_option maxHeartbeats 4000000 in
theorem cells1_in (F : Fence) (n : Nat) (h59 : F.fn 59) (hro : F.round = none) (hn : 1 ≤ n) (l Bt Bm n₀ N : Nat) {s : List Bnd} {t : List Cell} (J Jx : List FCell → World → Prop)
    (hN : (putT s t).length ≤ N)
    (hY : ∀ pre x W, J pre W → pre.length < N → YieldAt F (n - 1) Try.prog l #[cellV x.1] W fun e W' =>
      (e = .returned (.bool true) ∧ J (pre ++ [x]) W' ∧ KpM n₀ Bm W W') ∨ (e = .returned (.bool false) ∧ Jx (pre ++ [x]) W'))
    (W : World) (hJa : AbidesFrom W.heap.size J) {tv mv : Value} (hBt : W.cell? ⟨Bt, 0, none⟩ = some tv) (hBm : W.cell? ⟨Bm, 0, none⟩ = some mv) (hBl : Bm < W.heap.size) (hn₀ : n₀ ≤ W.heap.size)
    (hT : Seq cellE (fun b => b < n₀) W tv t) (hM : MapS (fun b => b < n₀) W mv s) (h0 : J [] W) :
    CallsIn F n Try.prog 59 #[.func (.yield l) #[] #[], .pointer (some ⟨Bt, 0, none⟩), .pointer (some ⟨Bm, 0, none⟩)] W fun e W' => (∃ v, e = .returned v) ∧
      ((∃ ys, valL ys = putT s t ∧ J ys W') ∨ (∃ pre, valL pre <+: putT s t ∧ Jx pre W')) := by
  obtain ⟨ta, tc, rfl, -, -, htl, -, t5⟩ := hT
  have htf := fun {w' : World} (h : Below n₀ W w') => Lib.hid (t5.below h fun _ h _ => h : SeqAt cellE (fun b => b < n₀) w' ta t)
  obtain ⟨B, nB, D, rfl, hB0, hBlt, hown, hTab⟩ := hM
  have hownf := fun {w' : World} (h : Below n₀ W w') => Lib.hid (ownsMap_at hown (h.block B hB0))
  have hTabf := fun {w' : World} (h : Below n₀ W w') => Lib.hid (hTab.mono (w' := w') (T := fun b => b < n₀) (fun _ h _ => h) fun b h' _ => h.block b h')
  refine callsIn_of_wp Try.func59 rfl h59 ?_ hro
  simp only [Try.ntmps59, List.size_toArray, List.length_cons, List.length_nil, Nat.reduceAdd, Nat.reduceSub, Array.replicate_succ, Array.replicate_zero, List.push_toArray, List.append_toArray, List.nil_append, List.cons_append]
  clear t5 hown hTab
  have hJa' := fun {q : List FCell} {V : World} {o : Obj} (hs : J q V) => (abidesAlloc hJa o hs : J q (V.alloc o))
  gi_wp2
  gi_loopw [12] (fun i wr => ∃ (k : Nat) (pre : List FCell), k ≤ t.length ∧ i = .int .i64 k ∧ valL pre = putT s (t.take k) ∧ J pre wr ∧ Hid (KpM n₀ Bm W wr)) (fun i _ => t.length - (intOf i).toNat)
  case atStart => exact ⟨0, [], Nat.zero_le _, rfl, rfl, h0, Lib.hid (KpM.refl _ _ _)⟩
  case round =>
    obtain ⟨k, pre, hk, rfl, hpre, hJs, hK⟩ := hrel
    obtain ⟨wx, rfl⟩ : ∃ wx, wx = wr := ⟨_, rfl⟩
    have hsz := hK.out.1.size
    have hmb : wx.cell? ⟨Bm, 0, none⟩ = some (.map (some B)) := (World.cell?_of_block hK.out.2).trans hBm
    by_cases hlt : k < t.length
    · have hown := (hownf hK.out.1).out
      have hTab := (hTabf hK.out.1).out
      have hpx := Lib.hid (fun j => putT_take (s := s) hlt j)
      have hsn := Lib.hid (putT_snoc (s := s) hlt)
      obtain ⟨b, off, rfl, hbn, hb, c0, c1, c2, ok0, ok2, ok3⟩ := (htf hK.out.1).out.cell hlt
      obtain ⟨c, hc⟩ : ∃ c, c = t[k] := ⟨_, rfl⟩
      rw [← hc] at c0 c1 c2 ok0 ok2 ok3 hpx hsn
      clear hc htf hownf hTabf
      have Hown := Lib.hid hown
      have HTab := Lib.hid hTab
      have Hpre := Lib.hid hpre
      clear hown hTab hpre
      have hkl : (k : Int) < (t.length : Int) := by omega
      have hk0 : (0 : Int) ≤ (k : Int) := by omega
      have hBl' : Bm < wx.heap.size := by omega
      cases hbd : bindS s c.n with
      | none =>
        have hhas := (HTab.out.2 c.n).1 hbd
        have hlk := Lib.hid (lookS_free (s := s) (c := c) (.inr hbd))
        by_cases hkd : c.kind = 1
        · have hkd' : (c.kind != 1) = false := by simp [hkd]
          clear hbd hkd
          gi_wp2_with (gi_at_lookup; refine wpListIn_look _ rfl _ _ 57 rfl 3 23 (Maps.int_keyed Try.underlying3) Try.underlying57 (zero_slice _) B nB D rfl (Hown.out.alloc _) _ _ rfl (Maps.keyOf_int_mk Try.underlying3 (wf_ok ok2)) (Maps.atKey_of_not_has hhas _) hhas ?_)
          obtain ⟨w1, hw1⟩ : ∃ w1, w1 = (wx.alloc (.cells #[.int .i64 c.kind, .string c.name, .int .i64 c.n] 41)).alloc (.cells #[.int .i64 c.kind, .string c.name, .int .i64 c.n] 41) := ⟨_, rfl⟩
          have b1 := Row.new (wx.alloc (.cells #[.int .i64 c.kind, .string c.name, .int .i64 c.n] 41)) [.int .i64 c.kind, .string c.name, .int .i64 c.n] 41 (B := wx.heap.size + 1) (by simp)
          have hs1 : w1.heap.size = wx.heap.size + 2 := by rw [hw1]; simp
          have hJ1 : J pre w1 := by rw [hw1]; exact hJa' (hJa' hJs)
          have hK1 : KpM n₀ Bm W w1 := by rw [hw1]; exact (hK.out.alloc (by omega) hBl' _).alloc (by simp; omega) (by simp; omega) _
          rw [← hw1] at b1 ⊢
          have HK1 := Lib.hid hK1
          have HJ1 := Lib.hid hJ1
          have B1 := Lib.hid b1
          clear hw1 b1 hK1 hJ1 hJs
          gi_loopw [34] (fun i wr => ∃ (j : Nat) (q : List FCell), j ≤ 1 ∧ i = .int .i64 j ∧ Hid (valL q = putT s (t.take k) ++ [c].take j) ∧ Hid (J q wr) ∧ Hid (KpM n₀ Bm W wr) ∧ (j = 0 → wr = w1)) (fun i _ => 1 - (intOf i).toNat)
          case atStart => exact ⟨0, pre, by omega, rfl, Lib.hid (by rw [Hpre.out]; simp), HJ1, HK1, fun _ => rfl⟩
          case round =>
            obtain ⟨j, q, hj, rfl, hq, hJq, hKq, hjw⟩ := hrel
            by_cases hj0 : j = 0
            · subst hj0
              obtain rfl := hjw rfl
              obtain ⟨x0, x1, x2⟩ : wr.cell? ⟨wx.heap.size + 1, 0, none⟩ = some (.int .i64 c.kind) ∧ wr.cell? ⟨wx.heap.size + 1, 1, none⟩ = some (.string c.name) ∧ wr.cell? ⟨wx.heap.size + 1, 2, none⟩ = some (.int .i64 c.n) :=
                ⟨B1.out.cell (j := 0) (by simp), B1.out.cell (j := 1) (by simp), B1.out.cell (j := 2) (by simp)⟩
              have hql := Lib.hid (show q.length < N from by
                have := (hpx.out 1).length_le
                rw [hlk.out] at this
                have h2 : q.length = (valL q).length := by simp [valL]
                rw [hq.out] at h2
                simp at h2 this
                omega)
              obtain ⟨fn, tmps, assign, body, hy, hR⟩ := hY q ⟨c, ok0, ok2, ok3⟩ (wr.alloc (.cells #[.int .i64 c.kind, .string c.name, .int .i64 c.n] 41)) (hJa' hJq.out) hql.out
              dsimp only [cellV] at hy
              gi_wp2
              refine hR.mono ?_
              rintro e W3 (⟨rfl, hJ3, hk3⟩ | ⟨rfl, hJx3⟩)
              · have H3 := Lib.hid hJ3
                have HK3 := Lib.hid ((hKq.out.alloc (by omega) (by omega) _).trans hk3)
                clear hJ3 hk3 hR hy
                gi_wp2
                go_roundw
                case rel => exact ⟨1, _, Nat.le_refl _, by go_num, Lib.hid (by rw [valL_snoc, hq.out]; simp), H3, HK3, fun h => by cases h⟩
                case measure => simp [intOf]
              · have HX := Lib.hid hJx3
                clear hJx3 hR hy
                gi_wp2
                refine bodyPost_ret (results_none rfl _ _ _) rfl ?_
                refine ⟨⟨_, rfl⟩, .inr ⟨_, ?_, HX.out⟩⟩
                rw [valL_snoc, hq.out]
                have := hpx.out 1
                rw [hlk.out] at this
                simpa using this
            · obtain rfl : j = 1 := by omega
              clear hjw hj0
              gi_wp2
              go_roundw
              case rel => exact ⟨k + 1, q, hlt, by go_num, by rw [hq.out, hsn.out, hlk.out]; rfl, hJq.out, hKq⟩
              case measure => simp [intOf]; omega

        · have hkd' : (c.kind != 1) = true := by simp [hkd]
          clear hbd hkd
          gi_wp2_with (gi_at_lookup; refine wpListIn_look _ rfl _ _ 57 rfl 3 23 (Maps.int_keyed Try.underlying3) Try.underlying57 (zero_slice _) B nB D rfl (Hown.out.alloc _) _ _ rfl (Maps.keyOf_int_mk Try.underlying3 (wf_ok ok2)) (Maps.atKey_of_not_has hhas _) hhas ?_)
          obtain ⟨w1, hw1⟩ : ∃ w1, w1 = (wx.alloc (.cells #[.int .i64 c.kind, .string c.name, .int .i64 c.n] 41)).alloc (.cells #[.int .i64 c.kind, .string c.name, .int .i64 c.n] 41) := ⟨_, rfl⟩
          have b1 := Row.new (wx.alloc (.cells #[.int .i64 c.kind, .string c.name, .int .i64 c.n] 41)) [.int .i64 c.kind, .string c.name, .int .i64 c.n] 41 (B := wx.heap.size + 1) (by simp)
          have hs1 : w1.heap.size = wx.heap.size + 2 := by rw [hw1]; simp
          have hJ1 : J pre w1 := by rw [hw1]; exact hJa' (hJa' hJs)
          have hK1 : KpM n₀ Bm W w1 := by rw [hw1]; exact (hK.out.alloc (by omega) hBl' _).alloc (by simp; omega) (by simp; omega) _
          rw [← hw1] at b1 ⊢
          have HK1 := Lib.hid hK1
          have HJ1 := Lib.hid hJ1
          have B1 := Lib.hid b1
          clear hw1 b1 hK1 hJ1 hJs
          gi_loopw [34] (fun i wr => ∃ (j : Nat) (q : List FCell), j ≤ 1 ∧ i = .int .i64 j ∧ Hid (valL q = putT s (t.take k) ++ [c].take j) ∧ Hid (J q wr) ∧ Hid (KpM n₀ Bm W wr) ∧ (j = 0 → wr = w1)) (fun i _ => 1 - (intOf i).toNat)
          case atStart => exact ⟨0, pre, by omega, rfl, Lib.hid (by rw [Hpre.out]; simp), HJ1, HK1, fun _ => rfl⟩
          case round =>
            obtain ⟨j, q, hj, rfl, hq, hJq, hKq, hjw⟩ := hrel
            by_cases hj0 : j = 0
            · subst hj0
              obtain rfl := hjw rfl
              obtain ⟨x0, x1, x2⟩ : wr.cell? ⟨wx.heap.size + 1, 0, none⟩ = some (.int .i64 c.kind) ∧ wr.cell? ⟨wx.heap.size + 1, 1, none⟩ = some (.string c.name) ∧ wr.cell? ⟨wx.heap.size + 1, 2, none⟩ = some (.int .i64 c.n) :=
                ⟨B1.out.cell (j := 0) (by simp), B1.out.cell (j := 1) (by simp), B1.out.cell (j := 2) (by simp)⟩
              have hql := Lib.hid (show q.length < N from by
                have := (hpx.out 1).length_le
                rw [hlk.out] at this
                have h2 : q.length = (valL q).length := by simp [valL]
                rw [hq.out] at h2
                simp at h2 this
                omega)
              obtain ⟨fn, tmps, assign, body, hy, hR⟩ := hY q ⟨c, ok0, ok2, ok3⟩ (wr.alloc (.cells #[.int .i64 c.kind, .string c.name, .int .i64 c.n] 41)) (hJa' hJq.out) hql.out
              dsimp only [cellV] at hy
              gi_wp2
              refine hR.mono ?_
              rintro e W3 (⟨rfl, hJ3, hk3⟩ | ⟨rfl, hJx3⟩)
              · have H3 := Lib.hid hJ3
                have HK3 := Lib.hid ((hKq.out.alloc (by omega) (by omega) _).trans hk3)
                clear hJ3 hk3 hR hy
                gi_wp2
                go_roundw
                case rel => exact ⟨1, _, Nat.le_refl _, by go_num, Lib.hid (by rw [valL_snoc, hq.out]; simp), H3, HK3, fun h => by cases h⟩
                case measure => simp [intOf]
              · have HX := Lib.hid hJx3
                clear hJx3 hR hy
                gi_wp2
                refine bodyPost_ret (results_none rfl _ _ _) rfl ?_
                refine ⟨⟨_, rfl⟩, .inr ⟨_, ?_, HX.out⟩⟩
                rw [valL_snoc, hq.out]
                have := hpx.out 1
                rw [hlk.out] at this
                simpa using this
            · obtain rfl : j = 1 := by omega
              clear hjw hj0
              gi_wp2
              go_roundw
              case rel => exact ⟨k + 1, q, hlt, by go_num, by rw [hq.out, hsn.out, hlk.out]; rfl, hJq.out, hKq⟩
              case measure => simp [intOf]; omega

      | some tb =>
        obtain ⟨hhas, v, hat, hX⟩ := (HTab.out.2 c.n).2 tb hbd
        by_cases hkd : c.kind = 1
        · have hkd' : (c.kind != 1) = false := by simp [hkd]
          have hlk := Lib.hid (lookS_bound (s := s) hkd hbd)
          obtain ⟨xa, xc, rfl, -, -, hxl, -, x5⟩ := hX
          have hxf := fun {w' : World} (h : Below n₀ wx w') => Lib.hid (x5.below h fun _ h _ => h : SeqAt cellE (fun b => b < n₀) w' xa tb)
          clear hbd x5 hkd
          gi_wp2_with (gi_at_lookup; refine wpListIn_look _ rfl _ _ 57 rfl 3 23 (Maps.int_keyed Try.underlying3) Try.underlying57 (zero_slice _) B nB D rfl (Hown.out.alloc _) _ _ rfl (Maps.keyOf_int_mk Try.underlying3 (wf_ok ok2)) (hat _) hhas ?_)
          obtain ⟨w1, hw1⟩ : ∃ w1, w1 = wx.alloc (.cells #[.int .i64 c.kind, .string c.name, .int .i64 c.n] 41) := ⟨_, rfl⟩
          have hs1 : w1.heap.size = wx.heap.size + 1 := by rw [hw1]; simp
          have hJ1 : J pre w1 := by rw [hw1]; exact hJa' hJs
          have hK1 : KpM n₀ Bm W w1 := by rw [hw1]; exact hK.out.alloc (by omega) hBl' _
          have hKx : KpM n₀ Bm wx w1 := by rw [hw1]; exact (KpM.refl _ _ _).alloc (by omega) hBl' _
          rw [← hw1]
          have HK1 := Lib.hid hK1
          have HJ1 := Lib.hid hJ1
          have HKx := Lib.hid hKx
          clear hw1 hK1 hJ1 hJs hKx
          gi_loopw [34] (fun i wr => ∃ (j : Nat) (q : List FCell), j ≤ tb.length ∧ i = .int .i64 j ∧ Hid (valL q = putT s (t.take k) ++ tb.take j) ∧ Hid (J q wr) ∧ Hid (KpM n₀ Bm W wr) ∧ Hid (KpM n₀ Bm wx wr)) (fun i _ => tb.length - (intOf i).toNat)
          case atStart => exact ⟨0, pre, Nat.zero_le _, rfl, Lib.hid (by rw [Hpre.out]; simp), HJ1, HK1, HKx⟩
          case round =>
            obtain ⟨j, q, hj, rfl, hq, hJq, hKq, hKy⟩ := hrel
            have hzr := hKq.out.1.size
            by_cases hltj : j < tb.length
            · obtain ⟨b2, o2, rfl, hb2n, hb2, d0, d1, d2, okd, okn, oks⟩ := (hxf hKy.out.1).out.cell hltj
              have htk := Lib.hid (List.take_succ_eq_append_getElem hltj)
              have hql := Lib.hid (show q.length < N from by
                have := (hpx.out (j + 1)).length_le
                rw [hlk.out, htk.out] at this
                have h2 : q.length = (valL q).length := by simp [valL]
                rw [hq.out] at h2
                simp at h2 this
                omega)
              obtain ⟨d, hd⟩ : ∃ d, d = tb[j] := ⟨_, rfl⟩
              rw [← hd] at d0 d1 d2 okd okn oks htk
              have hjl : (j : Int) < (tb.length : Int) := by omega
              have hj0 : (0 : Int) ≤ (j : Int) := by omega
              clear hd
              obtain ⟨fn, tmps, assign, body, hy, hR⟩ := hY q ⟨d, okd, okn, oks⟩ (wr.alloc (.cells #[.int .i64 d.kind, .string d.name, .int .i64 d.n] 41)) (hJa' hJq.out) hql.out
              dsimp only [cellV] at hy
              gi_wp2
              refine hR.mono ?_
              rintro e W3 (⟨rfl, hJ3, hk3⟩ | ⟨rfl, hJx3⟩)
              · have H3 := Lib.hid hJ3
                have HK3 := Lib.hid ((hKq.out.alloc (by omega) (by omega) _).trans hk3)
                have HY3 := Lib.hid ((hKy.out.alloc (by omega) (by omega) _).trans hk3)
                clear hJ3 hk3 hR hy
                gi_wp2
                go_roundw
                case rel => exact ⟨j + 1, _, hltj, by go_num, Lib.hid (by rw [valL_snoc, hq.out, htk.out]; simp), H3, HK3, HY3⟩
                case measure => simp [intOf]; omega
              · have HX := Lib.hid hJx3
                clear hJx3 hR hy
                gi_wp2
                refine bodyPost_ret (results_none rfl _ _ _) rfl ?_
                refine ⟨⟨_, rfl⟩, .inr ⟨_, ?_, HX.out⟩⟩
                rw [valL_snoc, hq.out]
                have := hpx.out (j + 1)
                rw [hlk.out, htk.out] at this
                simpa using this
            · obtain rfl : j = tb.length := by omega
              rw [List.take_length] at hq
              gi_wp2
              go_roundw
              case rel => exact ⟨k + 1, q, hlt, by go_num, by rw [hq.out, hsn.out, hlk.out], hJq.out, hKq⟩
              case measure => simp [intOf]; omega

        · have hkd' : (c.kind != 1) = true := by simp [hkd]
          have hlk := Lib.hid (lookS_free (s := s) (c := c) (.inl hkd))
          obtain ⟨xa, xc, rfl, -⟩ := hX
          clear hbd hkd
          gi_wp2_with (gi_at_lookup; refine wpListIn_look _ rfl _ _ 57 rfl 3 23 (Maps.int_keyed Try.underlying3) Try.underlying57 (zero_slice _) B nB D rfl (Hown.out.alloc _) _ _ rfl (Maps.keyOf_int_mk Try.underlying3 (wf_ok ok2)) (hat _) hhas ?_)
          obtain ⟨w1, hw1⟩ : ∃ w1, w1 = (wx.alloc (.cells #[.int .i64 c.kind, .string c.name, .int .i64 c.n] 41)).alloc (.cells #[.int .i64 c.kind, .string c.name, .int .i64 c.n] 41) := ⟨_, rfl⟩
          have b1 := Row.new (wx.alloc (.cells #[.int .i64 c.kind, .string c.name, .int .i64 c.n] 41)) [.int .i64 c.kind, .string c.name, .int .i64 c.n] 41 (B := wx.heap.size + 1) (by simp)
          have hs1 : w1.heap.size = wx.heap.size + 2 := by rw [hw1]; simp
          have hJ1 : J pre w1 := by rw [hw1]; exact hJa' (hJa' hJs)
          have hK1 : KpM n₀ Bm W w1 := by rw [hw1]; exact (hK.out.alloc (by omega) hBl' _).alloc (by simp; omega) (by simp; omega) _
          rw [← hw1] at b1 ⊢
          have HK1 := Lib.hid hK1
          have HJ1 := Lib.hid hJ1
          have B1 := Lib.hid b1
          clear hw1 b1 hK1 hJ1 hJs
          gi_loopw [34] (fun i wr => ∃ (j : Nat) (q : List FCell), j ≤ 1 ∧ i = .int .i64 j ∧ Hid (valL q = putT s (t.take k) ++ [c].take j) ∧ Hid (J q wr) ∧ Hid (KpM n₀ Bm W wr) ∧ (j = 0 → wr = w1)) (fun i _ => 1 - (intOf i).toNat)
          case atStart => exact ⟨0, pre, by omega, rfl, Lib.hid (by rw [Hpre.out]; simp), HJ1, HK1, fun _ => rfl⟩
          case round =>
            obtain ⟨j, q, hj, rfl, hq, hJq, hKq, hjw⟩ := hrel
            by_cases hj0 : j = 0
            · subst hj0
              obtain rfl := hjw rfl
              obtain ⟨x0, x1, x2⟩ : wr.cell? ⟨wx.heap.size + 1, 0, none⟩ = some (.int .i64 c.kind) ∧ wr.cell? ⟨wx.heap.size + 1, 1, none⟩ = some (.string c.name) ∧ wr.cell? ⟨wx.heap.size + 1, 2, none⟩ = some (.int .i64 c.n) :=
                ⟨B1.out.cell (j := 0) (by simp), B1.out.cell (j := 1) (by simp), B1.out.cell (j := 2) (by simp)⟩
              have hql := Lib.hid (show q.length < N from by
                have := (hpx.out 1).length_le
                rw [hlk.out] at this
                have h2 : q.length = (valL q).length := by simp [valL]
                rw [hq.out] at h2
                simp at h2 this
                omega)
              obtain ⟨fn, tmps, assign, body, hy, hR⟩ := hY q ⟨c, ok0, ok2, ok3⟩ (wr.alloc (.cells #[.int .i64 c.kind, .string c.name, .int .i64 c.n] 41)) (hJa' hJq.out) hql.out
              dsimp only [cellV] at hy
              gi_wp2
              refine hR.mono ?_
              rintro e W3 (⟨rfl, hJ3, hk3⟩ | ⟨rfl, hJx3⟩)
              · have H3 := Lib.hid hJ3
                have HK3 := Lib.hid ((hKq.out.alloc (by omega) (by omega) _).trans hk3)
                clear hJ3 hk3 hR hy
                gi_wp2
                go_roundw
                case rel => exact ⟨1, _, Nat.le_refl _, by go_num, Lib.hid (by rw [valL_snoc, hq.out]; simp), H3, HK3, fun h => by cases h⟩
                case measure => simp [intOf]
              · have HX := Lib.hid hJx3
                clear hJx3 hR hy
                gi_wp2
                refine bodyPost_ret (results_none rfl _ _ _) rfl ?_
                refine ⟨⟨_, rfl⟩, .inr ⟨_, ?_, HX.out⟩⟩
                rw [valL_snoc, hq.out]
                have := hpx.out 1
                rw [hlk.out] at this
                simpa using this
            · obtain rfl : j = 1 := by omega
              clear hjw hj0
              gi_wp2
              go_roundw
              case rel => exact ⟨k + 1, q, hlt, by go_num, by rw [hq.out, hsn.out, hlk.out]; rfl, hJq.out, hKq⟩
              case measure => simp [intOf]; omega

    · obtain rfl : k = t.length := by omega
      rw [List.take_length] at hpre
      gi_wp2
      go_end0
      exact ⟨⟨_, rfl⟩, .inl ⟨pre, hpre, hJs⟩⟩
end Go.Proofs.Ytgfiaddldmmjiaa
