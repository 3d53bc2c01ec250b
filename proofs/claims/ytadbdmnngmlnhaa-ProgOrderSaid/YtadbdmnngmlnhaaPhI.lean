/-
  Layer 7, the program: slices.Clone, Equal and Max at ints.
  Layer 7, the program: raising levels once, in place.
-/
import Derived.Test.YtadbdmnngmlnhaaPgG
import Derived.Test.YtadbdmnngmlnhaaPgU
import Derived.Test.YtadbdmnngmlnhaaFlatE
import Derived.StillTailTactics
namespace Go.Proofs.Ytadbdmnngmlnhaa
section
open Go Go.RowKit

set_option maxHeartbeats 1600000 in
set_option maxRecDepth 100000 in
theorem cloneI_spec {S : Nat → Prop} {w : World} {v : Value} {l : List Int} (hl : Seq intE S w v l) (hlen : l.length ≤ 1000000000) :
    Calls Try.prog 68 #[v] w (Ret (fun o w' => Own intE (fun b => S b ∧ b < w.heap.size) w.heap.size 3 w' o l) w) := by
  have hb := Lib.hid hl.bnd
  obtain ⟨ao, cap, rfl, h1, h2, h3, h4, h5⟩ := hl
  cases ao with
  | none =>
    obtain rfl := h4 rfl
    have hl0 : l.length = 0 := by omega
    have hn := Lib.hid (List.eq_nil_of_length_eq_zero hl0)
    have hnil := fun (w : World) (a : Option Addr) (n c n' c' : Nat) => Lib.run_eql_slice_nil (P := Try.prog) w 33 3 a n c n' c' Try.underlying33
    clear h5 h4
    go_enter Try.func68, Try.ntmps68
    go_wp2_with fail
    go_ret
    exact ⟨_, rfl, Below.refl _ _, by rw [hn.out]; exact Own.nil _ _ _ _ _⟩
  | some ad =>
    clear h5 h4
    have hown : Own intE (fun b => S b ∧ b < w.heap.size) w.heap.size 3 (w.alloc (.cells #[] 3)) (.slice (some ⟨w.heap.size, 0, none⟩) 0 0) ([] : List Int) := Own.lit0 rfl (Nat.le_refl _) rfl
    have hba := Lib.hid (hb.out.at (Seq.way (w' := w.alloc (.cells #[] 3))))
    have hnil := fun (w : World) (a : Option Addr) (n c n' c' : Nat) => Lib.run_eql_slice_nil (P := Try.prog) w 33 3 a n c n' c' Try.underlying33
    go_enter Try.func68, Try.ntmps68
    go_wp2_with (at_builtin; refine wpList_appL (wm := w.alloc (.cells #[] 3)) (zs := l) rfl _ _ 33 rfl Try.underlying33 infoInt rfl rfl hown (Below.refl _ _) rfl hba.out (fun b h _ => ⟨h, .inl h.2⟩) rfl (by omega) (by omega) (by simp) ?_)
    intro ao' cap' w' hown' hkept
    have hb' := (Seq.way (w := w) (w' := w.alloc (.cells #[] 3)) (B := w.heap.size)).trans hkept.below
    have Hown := Lib.hid hown'
    clear hown hown' hkept hba
    go_wp2_with fail
    go_ret
    exact ⟨_, rfl, hb', Hown.out⟩

set_option maxHeartbeats 1600000 in
set_option maxRecDepth 100000 in
theorem equalI_spec {S T : Nat → Prop} {w : World} {v u : Value} {a b : List Int} (ha : Seq intE S w v a) (hb : Seq intE T w u b) :
    Calls Try.prog 69 #[v, u] w (QuietV (.bool (decide (a = b))) w) := by
  obtain ⟨aa, ac, rfl, -, -, hal, -, ha5⟩ := ha
  obtain ⟨ba, bc, rfl, -, -, hbl, -, hb5⟩ := hb
  go_enter Try.func69, Try.ntmps69
  by_cases hl : a.length = b.length
  · have hl' : ((a.length : Int) != (b.length : Int)) = false := by simp [hl]
    have Hl := Lib.hid hl
    clear hl
    go_wp2_with fail
    go_loopw [13] (fun i wr => ∃ k : Nat, k ≤ a.length ∧ i = .int .i64 k ∧ Hid (∀ j, j < k → a[j]? = b[j]?) ∧ Drew w wr) (fun i _ => a.length - (intOf i).toNat)
    case atStart => exact ⟨0, Nat.zero_le _, rfl, Lib.hid (by simp), Drew.refl _⟩
    case round =>
      obtain ⟨k, hk, rfl, hno, hdr⟩ := hrel
      obtain ⟨q, rfl⟩ := hdr
      by_cases hka : k < a.length
      · have hkb : k < b.length := by rw [← Hl.out]; exact hka
        obtain ⟨b1, o1, rfl, -, -, c0, -⟩ := ha5.int hka
        obtain ⟨b2, o2, rfl, -, -, d0, -⟩ := hb5.int hkb
        have hx := Lib.hid (show a[k] = b[k] → ∀ j, j < k + 1 → a[j]? = b[j]? from fun h j hj => by
          by_cases e : j = k
          · subst e; rw [List.getElem?_eq_getElem hka, List.getElem?_eq_getElem hkb, h]
          · exact hno.out j (by omega))
        have hn := Lib.hid (show a[k] ≠ b[k] → decide (a = b) = false from fun h => decide_eq_false fun e => by subst e; exact h rfl)
        clear ha5 hb5
        obtain ⟨x, hxe⟩ : ∃ x, x = a[k] := ⟨_, rfl⟩
        obtain ⟨y, hye⟩ : ∃ y, y = b[k] := ⟨_, rfl⟩
        rw [← hxe] at c0 hx hn
        rw [← hye] at d0 hx hn
        clear hxe hye
        have hkl : (k : Int) < (a.length : Int) := by omega
        have hkm : (k : Int) < (b.length : Int) := by omega
        have hk0 : (0 : Int) ≤ (k : Int) := by omega
        by_cases he : x = y
        · have hx' := Lib.hid (hx.out he)
          subst he
          clear hx hn
          go_wp2_with fail
          go_quiet (fail)
          go_wp2_with fail
          go_roundw
          case rel => exact ⟨k + 1, hka, by go_num, hx', (by repeat (first | exact Drew.of _ _ | refine Drew.drewN ?_ _))⟩
          case measure => simp [intOf]; omega
        · have hn' := Lib.hid (hn.out he)
          have hne : (x != y) = true := by simp [he]
          clear hx hn he
          go_wp2_with fail
          go_quiet (fail)
          go_wp2_with fail
          go_ret
          exact ⟨ret_bool hn'.out.symm, (by repeat (first | exact Drew.of _ _ | refine Drew.drewN ?_ _))⟩
      · obtain rfl : k = a.length := by omega
        have he := Lib.hid (show decide (a = b) = true from decide_eq_true (List.ext_getElem? fun j => by
          by_cases hj : j < a.length
          · exact hno.out j hj
          · rw [List.getElem?_eq_none (by omega), List.getElem?_eq_none (by have := Hl.out; omega)]))
        clear hno
        go_wp2_with fail
        go_ret
        exact ⟨ret_bool he.out.symm, (by repeat (first | exact Drew.of _ _ | refine Drew.drewN ?_ _))⟩
  · have hd := Lib.hid (show decide (a = b) = false from decide_eq_false fun h => hl (by rw [h]))
    have hl' : ((a.length : Int) != (b.length : Int)) = true := by simp; omega
    clear hl
    go_wp2_with fail
    go_ret
    exact ⟨ret_bool hd.out.symm, Drew.refl _⟩

theorem maxIf (m y : Int) : (if m < y then y else m) = max m y := by split <;> omega
def maxTo (l : List Int) (k : Nat) : Int := (l.take k).foldl max (l.headD 0)
theorem maxTo_succ {l : List Int} {k : Nat} (h : k < l.length) : maxTo l (k + 1) = max (maxTo l k) l[k] := by
  unfold maxTo; rw [List.take_succ_eq_append_getElem h, List.foldl_append]; rfl
theorem maxTo_ge (l : List Int) : ∀ (k : Nat), k ≤ l.length → (∀ x ∈ l.take k, x ≤ maxTo l k) ∧ (maxTo l k = l.headD 0 ∨ maxTo l k ∈ l)
  | 0, _ => by simp [maxTo]
  | k + 1, h => by
    obtain ⟨h1, h2⟩ := maxTo_ge l k (by omega)
    rw [maxTo_succ (by omega)]
    refine ⟨fun x hx => ?_, ?_⟩
    · rw [List.take_succ_eq_append_getElem (by omega)] at hx
      rcases List.mem_append.1 hx with hx | hx
      · have := h1 x hx; omega
      · rw [List.mem_singleton] at hx; subst hx; omega
    · rcases Int.le_total (maxTo l k) l[k] with h3 | h3
      · right; rw [Int.max_eq_right h3]; exact List.getElem_mem _
      · rw [Int.max_eq_left h3]; exact h2
set_option maxHeartbeats 1600000 in
set_option maxRecDepth 100000 in
theorem maxI_spec {S : Nat → Prop} {w : World} {v : Value} {l : List Int} (hl : Seq intE S w v l) (hne : 0 < l.length) :
    Calls Try.prog 47 #[v] w (PureV (.int .i64 (maxTo l l.length)) w) := by
  obtain ⟨ao, cap, rfl, -, -, hll, -, h5⟩ := hl
  obtain ⟨b0, o0, rfl, -, -, c0, -⟩ := h5.int hne
  rw [Nat.add_zero] at c0
  have hd := Lib.hid (show l[0] = maxTo l 1 by
    cases l with
    | nil => simp at hne
    | cons a l => simp [maxTo])
  obtain ⟨x0, hx0⟩ : ∃ x, x = l[0] := ⟨_, rfl⟩
  rw [← hx0] at c0 hd
  clear hx0
  have h1l : ((l.length : Int) < 1) = False := by simp; omega
  go_enter Try.func47, Try.ntmps47
  go_wp2_with fail
  go_loopw [3, 4] (fun m i wr => ∃ k : Nat, k ≤ l.length ∧ 1 ≤ k ∧ i = .int .i64 k ∧ m = .int .i64 (maxTo l k) ∧ w = wr) (fun _ i _ => l.length - (intOf i).toNat)
  case atStart => exact ⟨1, hne, Nat.le_refl _, rfl, by rw [hd.out], rfl⟩
  case round =>
    obtain ⟨k, hk, hk1, rfl, rfl, rfl⟩ := hrel
    by_cases hlt : k < l.length
    · obtain ⟨b1, o1, eo, -, -, d0, -⟩ := h5.int hlt
      simp only [Option.some.injEq, Addr.mk.injEq, and_true] at eo
      obtain ⟨rfl, rfl⟩ := eo
      have hst := Lib.hid (maxTo_succ hlt)
      obtain ⟨y, hy⟩ : ∃ y, y = l[k] := ⟨_, rfl⟩
      rw [← hy] at d0 hst
      obtain ⟨m, hm⟩ : ∃ m, m = maxTo l k := ⟨_, rfl⟩
      rw [← hm] at hst ⊢
      clear hy hm h5
      have hkl : (k : Int) < (l.length : Int) := by omega
      have hk0 : (0 : Int) ≤ (k : Int) := by omega
      go_wp2_with fail
      go_roundw
      case rel => exact ⟨k + 1, hlt, by omega, by go_num, by rw [hst.out, ← maxIf]; try rfl, by first | rfl | trivial⟩
      case measure => simp [intOf]; omega
    · have hkn := Lib.hid (show k = l.length by omega)
      have hkl : ¬ (k : Int) < (l.length : Int) := by omega
      clear hlt
      go_wp2_with fail
      go_ret
      exact ⟨by rw [hkn.out]; rfl, rfl⟩
end
section
open Go Go.RowKit

theorem grown_seq {α : Type} {E : Elt α} {S : Nat → Prop} {w w' : World} {o : Option Nat} {v : Value} {l : List α} (h : Seq E S w v l) (hw : w.grownBy w' o) (hS : ∀ b, S b → o ≠ some b) : Seq E S w' v l :=
  h.mono (fun _ h _ => h) fun b hb hl => hw.block b hl (fun e => hS b hb e.symm)
theorem grown_cell {w w' : World} {o : Option Nat} {b k : Nat} (hw : w.grownBy w' o) (hb : b < w.heap.size) (hne : o ≠ some b) : w'.cell? ⟨b, k, none⟩ = w.cell? ⟨b, k, none⟩ :=
  World.cell?_of_block (hw.block b hb fun e => hne e.symm)
theorem grown_own {α : Type} {E : Elt α} {S : Nat → Prop} {base : Nat} {e : TypeId} {w w' : World} {o : Option Nat} {v : Value} {l : List α} (h : Own E S base e w v l) (hw : w.grownBy w' o) (hv : ∀ b, v.ownBlock = some b → o ≠ some b) (hS : ∀ b, S b → o ≠ some b) : Own E S base e w' v l :=
  h.moveO (fun b hl hb => hw.block b hl fun e => hv b hb e.symm) fun b hl hb => hw.block b hl fun e => hS b hb e.symm
theorem grown_of {w0 w w' : World} {o : Option Nat} (h : w0.grownBy w o) (hb : Below w.heap.size w w') : w0.grownBy w' o :=
  ⟨hb.os.trans h.os, hb.tape.trans h.tape, hb.output.trans h.output, Nat.le_trans h.size hb.size, fun k hk hne => (hb.block k (Nat.lt_of_lt_of_le hk h.size)).trans (h.block k hk hne)⟩
theorem grown_from {w0 w w' : World} {o : Option Nat} (hb : Below w0.heap.size w0 w) (h : w.grownBy w' o) : w0.grownBy w' o :=
  ⟨h.os.trans hb.os, h.tape.trans hb.tape, h.output.trans hb.output, Nat.le_trans hb.size h.size, fun k hk hne => (h.block k (Nat.lt_of_lt_of_le hk hb.size) hne).trans (hb.block k hk)⟩
theorem foldP_succ {K : List Lnk} {m : List Nat} {k : Nat} (h : k < K.length) : (K.take (k + 1)).foldl (fun a k => bump a a k) m = bump ((K.take k).foldl (fun a k => bump a a k) m) ((K.take k).foldl (fun a k => bump a a k) m) K[k] := by
  rw [List.take_succ_eq_append_getElem h, List.foldl_append]; rfl
theorem bump_bound1 {a : List Nat} {k : Lnk} {B : Nat} (hk : k.fr < a.length) (ha : ∀ i, lv a i ≤ B) : ∀ i, lv (bump a a k) i ≤ B + 1 := fun i => by
  unfold bump
  rw [lv_set hk]
  have hw : k.w ≤ 1 := by unfold Lnk.w; split <;> omega
  have := ha k.2
  have := ha k.fr
  have := ha i
  split <;> omega

set_option maxHeartbeats 6400000 in
set_option maxRecDepth 100000 in
theorem raise_spec {T : Nat → Prop} {base bt kc : Nat} {ka : Option Addr} {w : World} {v : Value} {m : List Nat} {K : List Lnk} {n B : Nat}
    (hc0 : w.cell? ⟨bt, 0, none⟩ = some (.slice ka K.length kc)) (hc1 : w.cell? ⟨bt, 1, none⟩ = some v) (hbt : bt < w.heap.size)
    (hO : Own intE (fun _ => True) base 3 w v (natsI m)) (hK : Seq lnkE T w (.slice ka K.length kc) K) (hT : ∀ b, T b → v.ownBlock ≠ some b) (hbv : v.ownBlock ≠ some bt)
    (hr : RngK K n) (hn : m.length = n) (hnn : n ≤ 10000) (hKl : K.length ≤ 100000) (hb : ∀ i, lv m i ≤ B) (hB : B ≤ 100000) :
    Calls Try.prog 46 #[.pointer (some ⟨bt, 0, none⟩)] w fun e w' => e = .returned (.bool (decide (raiseP K m ≠ m))) ∧ w.grownBy w' v.ownBlock ∧ Own intE (fun _ => True) base 3 w' v (natsI (raiseP K m)) := by
  subst hn
  have hml := natsI_len m
  have HM := Lib.hid (hO.seqB (T := fun _ => True) (by omega) fun _ _ _ => trivial)
  obtain ⟨va, vc, rfl, -, -⟩ := hO.shape
  have HO := Lib.hid hO
  have HK := Lib.hid hK
  have HT := Lib.hid hT
  have Hbv := Lib.hid hbv
  have Hr := Lib.hid hr
  have Hb := Lib.hid hb
  have Hml := Lib.hid hml
  have C1 := Lib.hid hc1
  have C0 := Lib.hid hc0
  rw [hml] at HM HO hc1 C1 HT Hbv ⊢
  clear hO hK hT hbv hr hb
  go_enter Try.func46, Try.ntmps46
  go_wp2_with fail
  refine (cloneI_spec HM.out (by omega)).mono ?_
  rintro e w1 ⟨u, rfl, hb1, hown1⟩
  obtain ⟨ua, uc, rfl, -, -⟩ := hown1.shape
  have HU := Lib.hid hown1
  have hg1 := Lib.hid (show w.grownBy w1 (Value.slice va m.length vc).ownBlock from grown_from hb1 (World.grownBy.refl _ _))
  have d0 : w1.cell? ⟨bt, 0, none⟩ = some (.slice ka K.length kc) := (hb1.cell (p := ⟨bt, 0, none⟩) hbt).trans hc0
  have HO1 := Lib.hid (HO.out.move hb1)
  have hz1 := hb1.size
  clear hown1 hc0 hc1 HM
  go_wp2_with fail
  go_loopw [16] (fun i wr => ∃ (k : Nat) (a : List Nat), k ≤ K.length ∧ i = .int .i64 k ∧ Hid (a = (K.take k).foldl (fun a k => bump a a k) m) ∧ Hid (a.length = m.length) ∧ Hid (∀ i, lv a i ≤ B + k) ∧ Hid (Own intE (fun _ => True) base 3 wr (.slice va m.length vc) (natsI a)) ∧ Hid (w1.grownBy wr (Value.slice va m.length vc).ownBlock)) (fun i _ => K.length - (intOf i).toNat)
  case atStart => exact ⟨0, m, Nat.zero_le _, rfl, Lib.hid rfl, Lib.hid rfl, Hb, HO1, Lib.hid (World.grownBy.refl _ _)⟩
  case round =>
    obtain ⟨k, a, hk, rfl, hae, hal, hab, hOa, hgr⟩ := hrel
    have hzr := hgr.out.size
    by_cases hlt : k < K.length
    · obtain ⟨_, _, ee, -, -, -, -, x5⟩ := grown_seq (HK.out.at hb1) hgr.out HT.out
      simp only [Value.slice.injEq, true_and] at ee
      obtain ⟨rfl, rfl⟩ := ee
      obtain ⟨b1, o1, rfl, -, l1, c0, c1, c2, -⟩ := x5.lnk hlt
      obtain ⟨f1, f2⟩ := Hr.out _ (List.getElem_mem hlt)
      have hst := Lib.hid (foldP_succ (m := m) hlt)
      rw [← hae.out] at hst
      obtain ⟨x, hx⟩ : ∃ x, x = K[k] := ⟨_, rfl⟩
      rw [← hx] at c0 c1 c2 hst f1 f2
      have hfA : x.fr < a.length := by rw [hal.out]; exact f1
      have htA : x.2 < a.length := by rw [hal.out]; exact f2
      obtain ⟨g, cap, eo, g1, g2, g3, g4⟩ := hOa.out.getI (k := x.fr) (by rw [natsI_len]; exact hfA)
      simp only [Value.slice.injEq] at eo
      obtain ⟨rfl, -, rfl⟩ := eo
      have e0 := g3 x.fr (by rw [natsI_len]; exact hfA)
      have e2 := g3 x.2 (by rw [natsI_len]; exact htA)
      rw [natsI_lv hfA] at e0
      rw [natsI_lv htA] at e2
      have e1 := g4 x.fr
      have hab' := Lib.hid (bump_bound1 hfA hab.out)
      have hal' := Lib.hid (show (bump a a x).length = m.length by rw [bump_len]; exact hal.out)
      have hq2 := hab.out x.2
      have hr2 := hab.out x.fr
      have hnew := Lib.hid (show bump a a x = a.set x.fr (max (lv a x.fr) (lv a x.2 + x.w)) from rfl)
      have hfl : ∀ W : World, Calls Try.prog 60 #[.bool x.neg] W fun e w' => e = .returned (.int .i64 (x.w : Nat)) ∧ w' = W := fun W => by
        refine (FlagP_spec (w := W) (b := x.neg)).mono ?_
        rintro e w' ⟨rfl, rfl⟩
        refine ⟨?_, rfl⟩
        unfold flagB Lnk.w
        cases x.neg <;> rfl
      have hw1 : x.w ≤ 1 := by unfold Lnk.w; split <;> omega
      obtain ⟨f, hf⟩ : ∃ f, f = x.w := ⟨_, rfl⟩
      rw [← hf] at hfl hw1 hnew
      have Hfl := Lib.hid hfl
      have cb := (grown_cell (k := 1) hgr.out (Nat.lt_of_lt_of_le hbt hz1) Hbv.out).trans ((hb1.cell (p := ⟨bt, 1, none⟩) hbt).trans C1.out)
      obtain ⟨q, hq⟩ : ∃ q, q = lv a x.2 := ⟨_, rfl⟩
      obtain ⟨r, hr⟩ : ∃ q, q = lv a x.fr := ⟨_, rfl⟩
      rw [← hq] at e2 hq2 hnew
      rw [← hr] at e0 hr2 hnew
      have hbtr : bt < wr.heap.size := Nat.lt_of_lt_of_le hbt (Nat.le_trans hz1 hzr)
      obtain ⟨W2, hW2⟩ : ∃ W2, W2 = wr.alloc (.cells #[.int .i64 x.fr, .int .i64 x.2, .bool x.neg] 57) := ⟨_, rfl⟩
      have HbW2 := Lib.hid (show Below wr.heap.size wr W2 by rw [hW2]; exact Seq.way)
      have HR2 := Lib.hid (show RowA 57 W2 wr.heap.size [.int .i64 x.fr, .int .i64 x.2, .bool x.neg] by rw [hW2]; exact Row.new wr [_, _, _] _ rfl)
      have HW2 := Lib.hid hW2
      obtain ⟨bk, hbk⟩ : ∃ b, b = wr.heap.size := ⟨_, rfl⟩
      have Hbk := Lib.hid hbk
      have y0 : W2.cell? ⟨bk, 0, none⟩ = some (.int .i64 x.fr) := by rw [hbk]; exact HR2.out.row.cell (j := 0) (by simp)
      have y1 : W2.cell? ⟨bk, 1, none⟩ = some (.int .i64 x.2) := by rw [hbk]; exact HR2.out.row.cell (j := 1) (by simp)
      have y2 : W2.cell? ⟨bk, 2, none⟩ = some (.bool x.neg) := by rw [hbk]; exact HR2.out.row.cell (j := 2) (by simp)
      have y3 : W2.cell? ⟨bt, 1, none⟩ = _ := (HbW2.out.cell (p := ⟨bt, 1, none⟩) hbtr).trans cb
      have y4 : W2.cell? ⟨g, x.fr, none⟩ = _ := (HbW2.out.cell (p := ⟨g, x.fr, none⟩) g2).trans e0
      have y5 : W2.cell? ⟨g, x.2, none⟩ = _ := (HbW2.out.cell (p := ⟨g, x.2, none⟩) g2).trans e2
      have y6 : W2.frozen? ⟨g, x.fr, none⟩ = false := by rw [World.frozen?_of_block (HbW2.out.block g g2)]; exact e1
      have hkl : (k : Int) < (K.length : Int) := by omega
      have hk0 : (0 : Int) ≤ (k : Int) := by omega
      have hf1 : (x.fr : Int) < (m.length : Int) := by omega
      have hf2 : (x.2 : Int) < (m.length : Int) := by omega
      have hf3 : (0 : Int) ≤ (x.fr : Int) := by omega
      have hf4 : (0 : Int) ≤ (x.2 : Int) := by omega
      clear hx x5 hq hr g3 g4 hW2 hbk e0 e1 e2 cb hfl hf
      go_upto_region 5 with fail
      rw [← HW2.out, ← Hbk.out]
      clear c0 c1 c2
      go_still_tail 28, (by kernel_rfl)
      still_call (Hfl.out _)
      repeat still_step
      refine wpStill_nil ?_
      go_wp2_with fail
      go_roundw
      case rel =>
        have hv : (if (r : Int) < (q : Int) + (f : Int) then (q : Int) + (f : Int) else (r : Int)) = ((max r (q + f) : Nat) : Int) := by split <;> omega
        rw [hv]
        refine ⟨k + 1, bump a a x, hlt, by go_num, Lib.hid hst.out.symm, hal', hab', Lib.hid ?_, Lib.hid ?_⟩
        · rw [hnew.out, ← natsI_set]
          exact ((hOa.out.move HbW2.out).setI (by rw [natsI_len, hal.out]) (k := x.fr) (by rw [natsI_len]; exact hfA) ⟨by omega, by omega⟩).move Seq.way
        · exact grown_of (grown_trans (grown_of hgr.out HbW2.out) (grown_setCell W2 g _ _)) Seq.way
      case measure => simp [intOf]; omega
    · have hkn := Lib.hid (show k = K.length by omega)
      have hkl : ¬ (k : Int) < (K.length : Int) := by omega
      have hae2 := Lib.hid (show a = raiseP K m by rw [hae.out, hkn.out, List.take_length]; rfl)
      have hbu : ∀ b, Value.ownBlock (.slice ua m.length uc) = some b → (Value.slice va m.length vc).ownBlock ≠ some b := fun b h e => by
        have h1 := (HU.out.blk (by rw [hml]; exact h)).1
        have h2 := (HO.out.blk e).2
        omega
      have hU2 : Own intE (fun _ => False) w.heap.size 3 w1 (.slice ua m.length uc) (natsI m) := by
        have hU := HU.out
        rw [hml] at hU
        obtain ⟨vs, g1, g2⟩ := hU
        exact ⟨vs, g1, fun k x hx => g2 k x hx⟩
      have s1 := Lib.hid ((grown_own hU2 hgr.out hbu (fun _ h => h.elim)).seqB (T := fun _ => True) (by omega) fun _ _ _ => trivial)
      have s2 := Lib.hid (hOa.out.seqB (T := fun _ => True) (by rw [natsI_len, hal.out]; omega) fun _ _ _ => trivial)
      have cb := (grown_cell (k := 1) hgr.out (Nat.lt_of_lt_of_le hbt hz1) Hbv.out).trans ((hb1.cell (p := ⟨bt, 1, none⟩) hbt).trans C1.out)
      clear hlt hbu hU2
      go_wp2_with fail
      refine (equalI_spec s1.out s2.out).mono ?_
      rintro e w5 ⟨rfl, hd⟩
      have hb5 := hd.belowS
      go_wp2_with fail
      go_ret
      refine ⟨ret_bool ?_, grown_of (grown_from hb1 hgr.out) hb5, ?_⟩
      · rw [← hae2.out]
        by_cases h : m = a
        · rw [decide_eq_true (show natsI m = natsI a by rw [h]), decide_eq_false (fun h2 => h2 h.symm)]; rfl
        · rw [decide_eq_false (fun h2 => h (natsI_inj h2)), decide_eq_true (show a ≠ m from fun h2 => h h2.symm)]; rfl
      · rw [← hae2.out]
        exact hOa.out.move hb5
end
end Go.Proofs.Ytadbdmnngmlnhaa
