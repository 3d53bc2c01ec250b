/-
  The program: deps.Touched.
  The program: a map as a set; deps.Dirty.
-/
import Derived.Test.YtbcambjonjhopaaDpK
import Derived.Test.YtbcambjonjhopaaMtI
import Derived.Test.YtbcambjonjhopaaMtK
import Derived.Test.YtbcambjonjhopaaDpA
import Derived.Maps.OwnSet
import Derived.Laws.EntriesVeiled
namespace Go.Proofs.Ytbcambjonjhopaa
section
open Go Go.RowKit

theorem any_idx {α : Type} (p : α → Bool) (l : List α) : l.any p = decide (0 ≤ idxZ p l) := by
  rcases idxZ_cases p l with ⟨h, hn⟩ | ⟨k, hk, h, h1, -⟩
  · rw [h, List.any_eq_false.2 fun x hx => by
      obtain ⟨j, hj, rfl⟩ := List.mem_iff_getElem.1 hx
      rw [hn j hj]; simp]
    decide
  · rw [h, List.any_eq_true.2 ⟨_, List.getElem_mem hk, h1⟩]
    simp

set_option maxHeartbeats 3200000 in
set_option maxRecDepth 100000 in
theorem ctch_idx {S : Nat → Prop} {w : World} {v : Value} {l : List (List Cell)} {bt : Nat} {p : List Cell → Bool} (hl : Seq (seqE cellE) S w v l)
    (hc : ∀ (W' : World) (U : Nat → Prop) (u : Value), Below w.heap.size w W' → ∀ x ∈ l, Seq cellE U W' u x → Calls Try.prog 22 #[u, .pointer (some ⟨bt, 0, none⟩)] W' (RetV (.bool (p x)) W')) :
    Calls Try.prog 41 #[v, .func (.func 22) #[] #[.pointer (some ⟨bt, 0, none⟩)]] w (RetV (.int .i64 (idxZ p l)) w) := by
  have HL := Lib.hid hl
  have hll : l.length ≤ 140737488355328 := by obtain ⟨_, _, _, _, _, h, _⟩ := hl; exact h
  obtain ⟨aa, ac, rfl⟩ := hl.shape
  have Hc := Lib.hid hc
  clear hl hc
  go_enter Try.func41, Try.ntmps41
  go_wp2_with fail
  go_loopw [8] (fun i wr => ∃ k : Nat, k ≤ l.length ∧ i = .int .i64 k ∧ Hid (∀ j (h : j < l.length), j < k → p l[j] = false) ∧ Hid (Below w.heap.size w wr)) (fun i _ => l.length - (intOf i).toNat)
  case atStart => exact ⟨0, Nat.zero_le _, rfl, Lib.hid (fun i _ h => absurd h (Nat.not_lt_zero _)), Lib.hid Seq.way⟩
  case round =>
    obtain ⟨k, hk, rfl, hno, hbr⟩ := hrel
    by_cases hlt : k < l.length
    · obtain ⟨_, _, ee, -, -, -, -, h5⟩ := HL.out.at hbr.out
      simp only [Value.slice.injEq, true_and] at ee
      obtain ⟨rfl, rfl⟩ := ee
      obtain ⟨b, off, p1, n1, rfl, -, _hb, c0, hX⟩ := h5.seq hlt
      have hy := Lib.hid (show p l[k] = true → idxZ p l = (k : Int) from fun h => idxZ_hit hlt h fun j hj hjk => hno.out j hj hjk)
      have hz := Lib.hid (show p l[k] = false → ∀ i (h : i < l.length), i < k + 1 → p l[i] = false from fun h i hi hlt => by
        by_cases e : i = k
        · subst e; exact h
        · exact hno.out i hi (by omega))
      have hcc := Lib.hid (Hc.out _ _ _ hbr.out _ (List.getElem_mem hlt) hX)
      obtain ⟨x, hx⟩ : ∃ x, x = l[k] := ⟨_, rfl⟩
      rw [← hx] at c0 hy hz hcc
      obtain ⟨d, hd⟩ : ∃ d, d = p x := ⟨_, rfl⟩
      rw [← hd] at hy hz hcc
      clear hx h5 hd hX
      have hkl : (k : Int) < (l.length : Int) := by omega
      have hk0 : (0 : Int) ≤ (k : Int) := by omega
      go_wp2_with fail
      refine hcc.out.mono ?_
      rintro e w1 ⟨rfl, hb1⟩
      have B1 := Lib.hid (below_step hb1 hbr.out)
      clear hb1
      cases d with
      | true =>
        have hy' := Lib.hid (hy.out rfl)
        clear hy hz
        go_wp2_with fail
        go_ret
        exact ⟨ret_int hy'.out.symm, B1.out⟩
      | false =>
        have hz' := Lib.hid (hz.out rfl)
        clear hy hz
        go_wp2_with fail
        go_roundw
        case rel => exact ⟨k + 1, hlt, by go_num, hz', B1⟩
        case measure => simp [intOf]; omega
    · have hkl : ¬ (k : Int) < (l.length : Int) := by omega
      have hd := Lib.hid (idxZ_miss fun j hj => hno.out j hj (by omega))
      clear hlt hno
      go_wp2_with fail
      go_ret
      exact ⟨ret_int hd.out.symm, hbr.out⟩

set_option maxRecDepth 100000 in
theorem ctch_has {S : Nat → Prop} {w : World} {v : Value} {l : List (List Cell)} {bt : Nat} {p : List Cell → Bool} (hl : Seq (seqE cellE) S w v l)
    (hc : ∀ (W' : World) (U : Nat → Prop) (u : Value), Below w.heap.size w W' → ∀ x ∈ l, Seq cellE U W' u x → Calls Try.prog 22 #[u, .pointer (some ⟨bt, 0, none⟩)] W' (RetV (.bool (p x)) W')) :
    Calls Try.prog 24 #[v, .func (.func 22) #[] #[.pointer (some ⟨bt, 0, none⟩)]] w (RetV (.bool (l.any p)) w) := by
  have HL := Lib.hid hl
  obtain ⟨aa, ac, rfl⟩ := hl.shape
  have Hc := Lib.hid hc
  clear hl hc
  have hr := Lib.hid (any_idx p l)
  go_enter Try.func24, Try.ntmps24
  go_wp2_with fail
  refine (ctch_idx HL.out Hc.out).mono ?_
  rintro e w' ⟨rfl, hb⟩
  have HB := Lib.hid hb
  clear hb
  obtain ⟨z, hz⟩ : ∃ z, z = idxZ p l := ⟨_, rfl⟩
  rw [← hz] at hr ⊢
  clear hz
  go_wp2_with fail
  go_ret
  exact ⟨ret_bool (by rw [hr.out]; try rfl), HB.out⟩

theorem mP_iff {p t : List Cell} (hp : RightT p) (ht : RightT t) : mP p t = matchB p t := by rw [← mP_eq hp ht]; rfl
set_option maxRecDepth 100000 in
theorem touch1_spec {S T : Nat → Prop} {w : World} {v : Value} {p t : List Cell} {bt : Nat} {pa : Option Addr} {pc : Nat} (_hb : bt < w.heap.size) (hc : w.cell? ⟨bt, 0, none⟩ = some (.slice pa p.length pc)) (hp : Seq cellE S w (.slice pa p.length pc) p) (ht : Seq cellE T w v t) (hrp : RightT p) (hrt : RightT t) :
    Calls Try.prog 22 #[v, .pointer (some ⟨bt, 0, none⟩)] w (RetV (.bool (matchB p t)) w) := by
  have HP := Lib.hid hp
  have HT := Lib.hid ht
  have hm := Lib.hid (mP_iff hrp hrt)
  obtain ⟨ta, tc, rfl⟩ := ht.shape
  clear hp ht
  go_enter Try.func22, Try.ntmps22
  go_wp2_with fail
  refine (MatchP_spec (HP.out.at Seq.way) (HT.out.at Seq.way) hrp hrt).mono ?_
  rintro e w1 ⟨x, rfl, hb1⟩
  rw [hm.out]
  have HB := Lib.hid (below_step hb1 (Seq.way : Below w.heap.size w _))
  clear hb1
  go_wp2_with fail
  go_ret
  exact ⟨rfl, HB.out⟩

set_option maxHeartbeats 3200000 in
set_option maxRecDepth 100000 in
theorem TouchedP_spec {S T : Nat → Prop} {w : World} {v u : Value} {r : Res} {c : List (List Cell)} (hr : ResV S w v r) (hc : Seq (seqE cellE) T w u c) (hrl : r.tabs.length ≤ 1000) (hcr : ∀ t ∈ r.tabs, RightT t.call) (hok : ChgOK c) :
    Calls Try.prog 13 #[v, u] w (Ret (fun o w' => Seq intE (fun b => w.heap.size ≤ b) w' o (natsZ (touchL r c))) w) := by
  obtain ⟨ta, tc, ia, il, ic, la, lc, rfl, hT, hE⟩ := hr
  obtain ⟨W, hW⟩ : ∃ W, W = w.alloc (.cells #[.slice ta r.tabs.length tc, .slice ia il ic, .slice la r.lks.length lc] 26) := ⟨_, rfl⟩
  have HBW := Lib.hid (show Below w.heap.size w W by rw [hW]; exact Seq.way)
  have HT := Lib.hid (hT.any.at HBW.out)
  have HE := Lib.hid (hE.any.at HBW.out)
  have HW := Lib.hid hW
  obtain ⟨bt, hbt⟩ : ∃ b, b = w.heap.size := ⟨_, rfl⟩
  have Hbt := Lib.hid hbt
  have HR := Lib.hid (show RowA 26 W bt [.slice ta r.tabs.length tc, .slice ia il ic, .slice la r.lks.length lc] by rw [hW, hbt]; exact Row.new w [_, _, _] _ rfl)
  have Kr := fun {W' : World} (h : Below W.heap.size W W') => Lib.hid (show W'.cell? ⟨bt, 0, none⟩ = some (.slice ta r.tabs.length tc) ∧ W'.cell? ⟨bt, 1, none⟩ = some (.slice ia il ic) ∧ W'.cell? ⟨bt, 2, none⟩ = some (.slice la r.lks.length lc) ∧ bt < W'.heap.size from
    ⟨(HR.out.at h).row.cell (j := 0) (by simp), (HR.out.at h).row.cell (j := 1) (by simp), (HR.out.at h).row.cell (j := 2) (by simp), (HR.out.at h).row.lt⟩)
  clear hT hE hW hbt
  have HC := Lib.hid (hc.at HBW.out)
  have Hok := Lib.hid hok
  have Hcr := Lib.hid hcr
  obtain ⟨ca, cc, rfl⟩ := hc.shape
  clear hc hok hcr
  go_enter Try.func13, Try.ntmps13
  go_upto_region 1 with fail
  rw [← HW.out, ← Hbt.out]
  obtain ⟨r0, r1, r2, rl⟩ := (Kr (Below.refl _ W)).out
  go_wp2_with fail
  have hown0 := Lib.hid (show Own intE (fun _ => False) W.heap.size 3 W (.slice none 0 0) (natsZ (fltN (tchB r c) 0)) from Own.nil _ _ _ _ _)
  clear r0 r1 r2 rl
  go_loopw [5, 12] (fun o i wz => ∃ k : Nat, k ≤ r.tabs.length ∧ i = .int .i64 k ∧ Hid (Own intE (fun _ => False) W.heap.size 3 wz o (natsZ (fltN (tchB r c) k))) ∧ Hid (Below W.heap.size W wz)) (fun _ i _ => r.tabs.length - (intOf i).toNat)
  case atStart => exact ⟨0, Nat.zero_le _, rfl, hown0, Lib.hid (Below.refl _ _)⟩
  case round =>
    obtain ⟨k, hk, rfl, hown, hbz⟩ := hrel
    have hzr := hbz.out.size
    have hln2 := fltN_len (tchB r c) k
    have hsq := Lib.hid (hown.out.seq (S := fun _ => False) (T := fun _ => True) (by omega) fun _ _ _ => trivial)
    obtain ⟨oa, oc, rfl⟩ := hsq.out.shape
    by_cases hkl : k < r.tabs.length
    · obtain ⟨_, _, ee, -, -, -, -, x5⟩ := HT.out.at hbz.out
      simp only [Value.slice.injEq, true_and] at ee
      obtain ⟨rfl, rfl⟩ := ee
      obtain ⟨b1, o1, ca1, cc1, la1, lc1, rfl, -, l1, c0, c1, hX, -⟩ := x5.tab hkl
      have hcl := Lib.hid (Hcr.out _ (List.getElem_mem hkl))
      have hat := Lib.hid (tchB_at (c := c) hkl)
      have HX := Lib.hid hX
      obtain ⟨t, ht⟩ : ∃ t, t = r.tabs[k] := ⟨_, rfl⟩
      rw [← ht] at c0 c1 HX hat hcl
      have hkI : (k : Int) < (r.tabs.length : Int) := by omega
      have hk0 : (0 : Int) ≤ (k : Int) := by omega
      clear ht hX x5
      go_upto_region 6 with fail
      obtain ⟨W2, hW2⟩ : ∃ W, W = wr.alloc (.cells #[.slice ca1 t.call.length cc1, .slice la1 t.ans.length lc1] 43) := ⟨_, rfl⟩
      have HBW2 := Lib.hid (show Below wr.heap.size wr W2 by rw [hW2]; exact Seq.way)
      have HW2 := Lib.hid hW2
      have hsW2 : W2.heap.size = wr.heap.size + 1 := by rw [hW2]; simp
      obtain ⟨bq, hbq⟩ : ∃ b, b = wr.heap.size := ⟨_, rfl⟩
      have Hbq := Lib.hid hbq
      have HRW2 := Lib.hid (show RowA 43 W2 bq [.slice ca1 t.call.length cc1, .slice la1 t.ans.length lc1] by rw [hW2, show bq = wr.heap.size by omega]; exact Row.new wr [_, _] _ rfl)
      have Kb := fun {W' : World} (h : Below W2.heap.size W2 W') => Lib.hid (show W'.cell? ⟨bq, 0, none⟩ = some (.slice ca1 t.call.length cc1) ∧ W'.cell? ⟨bq, 1, none⟩ = some (.slice la1 t.ans.length lc1) ∧ bq < W'.heap.size from
        ⟨(HRW2.out.at h).row.cell (j := 0) (by simp), (HRW2.out.at h).row.cell (j := 1) (by simp), (HRW2.out.at h).row.lt⟩)
      rw [← HW2.out, ← Hbq.out]
      have HbW := Lib.hid (below_step HBW2.out hbz.out)
      have HX2 := Lib.hid (HX.out.at HBW2.out)
      have HO2 := Lib.hid (hown.out.move HBW2.out)
      have hcall := Lib.hid (ctch_has (bt := bq) (p := matchB t.call) (HC.out.at HbW.out) fun W' U u hW' x hx hu => touch1_spec (Kb hW').out.2.2 (Kb hW').out.1 (HX2.out.at hW') hu hcl.out (Hok.out.2 x hx))
      rw [show c.any (matchB t.call) = tchB r c k from hat.out.symm] at hcall
      have hzw := HbW.out.size
      clear Kb hsW2 hW2 hbq c0 c1
      go_wp2_with fail
      refine hcall.out.mono ?_
      rintro e z1 ⟨rfl, hz1⟩
      have HZ := Lib.hid (below_step hz1 HbW.out)
      have hzz := HZ.out.size
      have HO := Lib.hid (HO2.out.move hz1)
      clear hz1 hcall
      cases hq : tchB r c k with
      | false =>
        have hno2 := Lib.hid (fltN_no hq)
        clear hq
        go_wp2_with fail
        go_roundw
        case rel => exact ⟨k + 1, hkl, by go_num, Lib.hid (by rw [hno2.out]; exact HO.out), HZ⟩
        case measure => simp [intOf]; omega
      | true =>
        have hy2 := Lib.hid (fltN_yes hq)
        clear hq
        go_wp2_with (at_builtin; refine wpList_app_int rfl _ _ 31 rfl Try.underlying31 infoInt rfl HO.out rfl (y := (k : Int)) Seq.way ⟨by omega, by omega⟩ ?_ ?_ ?_ ?_)
        · go_simp
        · omega
        · exact hzz
        · intro ao cap w' hown' hkept
          have H' := Lib.hid hown'
          have K' := Lib.hid (Below.trans HZ.out (Below.trans (Below.mono (Seq.way : Below _ _ _) hzz) hkept.below))
          clear hown' hkept
          go_wp2_with fail
          go_roundw
          case rel => exact ⟨k + 1, hkl, by go_num, Lib.hid (by rw [hy2.out]; simpa using H'.out), K'⟩
          case measure => simp [intOf]; omega
    · have hkI : ¬ (k : Int) < (r.tabs.length : Int) := by omega
      have hke := Lib.hid (show k = r.tabs.length by omega)
      have hfin := Lib.hid (show Seq intE (fun b => w.heap.size ≤ b) wr (.slice oa (natsZ (fltN (tchB r c) k)).length oc) (natsZ (touchL r c)) by
        unfold touchL
        rw [← hke.out]
        have h1 := HBW.out.size
        exact hown.out.seq (by omega) fun b _ hb => hb.elim False.elim fun h => by omega)
      clear hkl
      go_wp2_with fail
      go_ret
      exact ⟨_, rfl, below_step hbz.out HBW.out, hfin.out⟩
end
section
open Go Go.RowKit

theorem grown_seq {α : Type} {E : Elt α} {S : Nat → Prop} {w w' : World} {o : Option Nat} {v : Value} {l : List α} (h : Seq E S w v l) (hw : w.grownBy w' o) (hS : ∀ b, S b → o ≠ some b) : Seq E S w' v l :=
  h.mono (fun _ h _ => h) fun b hb hl => hw.block b hl (fun e => hS b hb e.symm)
theorem grown_cell {w w' : World} {o : Option Nat} {b k : Nat} (hw : w.grownBy w' o) (hb : b < w.heap.size) (hne : o ≠ some b) : w'.cell? ⟨b, k, none⟩ = w.cell? ⟨b, k, none⟩ :=
  World.cell?_of_block (hw.block b hb fun e => hne e.symm)
theorem grown_of {w0 w w' : World} {o : Option Nat} (h : w0.grownBy w o) (hb : Below w.heap.size w w') : w0.grownBy w' o :=
  ⟨hb.os.trans h.os, hb.tape.trans h.tape, hb.output.trans h.output, Nat.le_trans h.size hb.size, fun k hk hne => (hb.block k (Nat.lt_of_lt_of_le hk h.size)).trans (h.block k hk hne)⟩
theorem grown_from {w0 w w' : World} {o : Option Nat} (hb : Below w0.heap.size w0 w) (h : w.grownBy w' o) : w0.grownBy w' o :=
  ⟨h.os.trans hb.os, h.tape.trans hb.tape, h.output.trans hb.output, Nat.le_trans hb.size h.size, fun k hk hne => (h.block k (Nat.lt_of_lt_of_le hk hb.size) hne).trans (hb.block k hk)⟩
theorem zero_bool (w : World) : (zeroValue 4).run Try.prog w = .ok (.bool false) w := by kernel_rfl

/-- A map as a set, its keys told by κ. -/
def SetK {α : Type} [DecidableEq α] (κ : α → Lit) (ok : α → Prop) (D : DataW Value) (s : List α) : Prop := Maps.IsMap D ∧ ∀ n, ok n → D.atKey (κ n) (.held (.bool false)) = .held (.bool (decide (n ∈ s)))
theorem setK_nil {α : Type} [DecidableEq α] (κ : α → Lit) (ok : α → Prop) : SetK κ ok (.map []) [] := ⟨Maps.isMap_empty, fun n _ => by simp; rfl⟩
theorem setK_put {α : Type} [DecidableEq α] {κ : α → Lit} {ok : α → Prop} (hinj : ∀ a b, ok a → ok b → κ a = κ b → a = b) (hk : ∀ a, WideAt.IsKeyLit (κ a)) {D : DataW Value} {s : List α} (h : SetK κ ok D s) {v : α} (hv : ok v) :
    SetK κ ok (D.put (κ v) (.held (.bool true))) (s ++ [v]) := by
  refine ⟨h.1.put _ _, fun n hn => ?_⟩
  by_cases e : v = n
  · subst e
    rw [Maps.atKey_put_same h.1 (hk v)]
    simp
  · have e' : κ n ≠ κ v := fun h => e (hinj _ _ hn hv h).symm
    rw [Maps.atKey_put_other e', h.2 n hn]
    congr 3
    simp [List.mem_append]
    exact fun h => absurd h.symm e
def keyN (n : Nat) : Lit := .int .i64 (n : Int)
def okN (n : Nat) : Prop := n ≤ 1000000000
theorem keyN_inj : ∀ a b, okN a → okN b → keyN a = keyN b → a = b := fun a b _ _ h => by
  unfold keyN at h
  injection h with _ h
  omega
theorem keyN_lit : ∀ a, WideAt.IsKeyLit (keyN a) := fun _ => by simp [keyN, WideAt.IsKeyLit]
theorem keyN_of {n : Nat} (h : okN n) : keyOf Try.prog 3 (.int .i64 (n : Int)) = some (keyN n) := Maps.keyOf_int_mk Try.underlying3 (wf_ok ⟨by unfold okN at h; omega, by unfold okN at h; omega⟩)
/-- The box that holds the map. -/
def MapN (w : World) (bb B : Nat) (s : List Nat) : Prop := w.cell? ⟨bb, 0, none⟩ = some (.map (some B)) ∧ bb < w.heap.size ∧ B < w.heap.size ∧ bb ≠ B ∧ ∃ n D, n ≤ s.length ∧ w.ownsMap Try.prog 3 Rv B n D ∧ SetK keyN okN D s
theorem MapN.at {w w' : World} {bb B : Nat} {s : List Nat} (h : MapN w bb B s) (hb : Below w.heap.size w w') : MapN w' bb B s := by
  obtain ⟨h1, h2, h3, h0, n, D, hn, h4, h5⟩ := h
  exact ⟨(hb.cell (p := ⟨bb, 0, none⟩) h2).trans h1, Nat.lt_of_lt_of_le h2 hb.size, Nat.lt_of_lt_of_le h3 hb.size, h0, n, D, hn, ownsMap_at h4 (hb.block B h3), h5⟩
set_option maxRecDepth 100000 in
theorem MapN.look {w : World} {bb B : Nat} {s : List Nat} (h : MapN w bb B s) {v : Nat} (hv : okN v) : (Instr.lookup 59 (.map (some B)) (.int .i64 (v : Int)) false).run Try.prog w = .ok (.bool (decide (v ∈ s))) w := by
  obtain ⟨-, -, -, -, n, D, -, h4, h5⟩ := h
  obtain ⟨u, ps, h6, h7⟩ := h4.lookup (Maps.int_keyed Try.underlying3) Try.underlying59 (zero_bool w) (zd := .held (.bool false)) (zp := []) rfl (keyN_of hv)
  rw [h5.2 v hv] at h7
  unfold Rv at h7
  simp only [Option.some.injEq, Prod.mk.injEq] at h7
  obtain ⟨h8, -⟩ := h7
  have h8 := DataW.held.inj h8
  rw [← h8]; exact h6

/-- The other way round. -/
def BackE (r : Res) (x y : Nat) : Prop := (y, x) ∈ edgL r
def backV (bs bt bf : Nat) : Value := .func (.func 25) #[] #[.pointer (some ⟨bs, 0, none⟩), .pointer (some ⟨bt, 0, none⟩), .pointer (some ⟨bf, 0, none⟩)]
theorem Vis.lt {E : Nat → Nat → Prop} {n N : Nat} {s t : List Nat} (h : Vis E n s t) (hs : ∀ x ∈ s, x < N) (hn : n < N) (hE : ∀ x y, E x y → x < N → y < N) : ∀ x ∈ t, x < N := fun x hx => by
  rcases h.snd x hx with h1 | h1
  · exact hs x h1
  · exact h1.closed (P := fun x => x < N) (fun x y hx e => hE x y e hx) hn
theorem VisTo.lt {E : Nat → Nat → Prop} {n N : Nat} {D : Nat → Prop} {s t : List Nat} (h : VisTo E n D s t) (hs : ∀ x ∈ s, x < N) (hn : n < N) (hE : ∀ x y, E x y → x < N → y < N) : ∀ x ∈ t, x < N := fun x hx => by
  rcases h.snd x hx with h1 | h1
  · exact hs x h1
  · exact h1.closed (P := fun x => x < N) (fun x y hx e => hE x y e hx) hn
theorem backE_lt {r : Res} (h : RngR r) : ∀ x y, BackE r x y → x < r.tabs.length → y < r.tabs.length := fun _ _ e _ => ((edgL_gr h).rng _ e).1
/-- What a visit that calls itself is given. -/
structure BackM (w : World) (r : Res) (bs bt bf B : Nat) (la : Option Addr) (lc : Nat) : Prop where
  ct : w.cell? ⟨bt, 2, none⟩ = some (.slice la r.lks.length lc)
  lt : bt < w.heap.size
  nt : bt ≠ B
  cf : w.cell? ⟨bf, 0, none⟩ = some (backV bs bt bf)
  lf : bf < w.heap.size
  nf : bf ≠ B
  hE : Seq edgE (fun b => b ≠ B) w (.slice la r.lks.length lc) r.lks
theorem BackM.grow {w w' : World} {r : Res} {bs bt bf B : Nat} {la : Option Addr} {lc : Nat} (h : BackM w r bs bt bf B la lc) (hw : w.grownBy w' (some B)) : BackM w' r bs bt bf B la lc :=
  ⟨(grown_cell hw h.lt (fun e => h.nt (Option.some.inj e).symm)).trans h.ct, Nat.lt_of_lt_of_le h.lt hw.size, h.nt, (grown_cell hw h.lf (fun e => h.nf (Option.some.inj e).symm)).trans h.cf, Nat.lt_of_lt_of_le h.lf hw.size, h.nf,
    grown_seq h.hE hw fun _ hb e => hb (Option.some.inj e).symm⟩

set_option maxHeartbeats 3200000 in
set_option maxRecDepth 100000 in
theorem back_spec {r : Res} (hrg : RngR r) (hN : r.tabs.length ≤ 1000) (hM : r.lks.length ≤ 1000) : ∀ (m : Nat) {w : World} {n : Nat} {s : List Nat} {bs bt bf B lc : Nat} {la : Option Addr} (_ : n < r.tabs.length) (_ : s.Nodup) (_ : ∀ x ∈ s, x < r.tabs.length) (_ : r.tabs.length ≤ s.length + m)
    (_ : MapN w bs B s) (_ : BackM w r bs bt bf B la lc),
    Calls Try.prog 25 #[.int .i64 n, .pointer (some ⟨bs, 0, none⟩), .pointer (some ⟨bt, 0, none⟩), .pointer (some ⟨bf, 0, none⟩)] w
      (fun e w' => e = .returned (.tuple #[]) ∧ w.grownBy w' (some B) ∧ ∃ t, Vis (BackE r) n s t ∧ MapN w' bs B t) := by
  intro m
  induction m with
  | zero =>
    intro w n s bs bt bf B lc la hn hnd hlt hm hmap hbm
    have hin : n ∈ s := by
      apply Classical.byContradiction
      intro h
      have := nodup_lt (s := n :: s) (N := r.tabs.length) (List.nodup_cons.2 ⟨h, hnd⟩) (fun x hx => by
        rcases List.mem_cons.1 hx with rfl | hx
        · exact hn
        · exact hlt x hx)
      simp at this; omega
    have hl := hmap.look (v := n) (by unfold okN; omega)
    rw [decide_eq_true hin] at hl
    have hc := hmap.1
    have HM := Lib.hid hmap
    have HV := Lib.hid (Vis.old (E := BackE r) hnd hin)
    clear hmap hbm hin hlt hnd hm
    go_enter Try.func25, Try.ntmps25
    go_wp2_with fail
    ((try simp only [Exit.inBlock, Exit.then]); refine bodyPost_ret (results_none rfl _ _ _) rfl ?_)
    exact ⟨rfl, World.grownBy.refl _ _, s, HV.out, HM.out⟩
  | succ m ih =>
    intro w n s bs bt bf B lc la hn hnd hlt hm hmap hbm
    have hl := hmap.look (v := n) (by unfold okN; omega)
    have hc := hmap.1
    have HM := Lib.hid hmap
    by_cases hin : n ∈ s
    · rw [decide_eq_true hin] at hl
      have HV := Lib.hid (Vis.old (E := BackE r) hnd hin)
      clear hmap hbm hin hlt hnd hm
      go_enter Try.func25, Try.ntmps25
      go_wp2_with fail
      ((try simp only [Exit.inBlock, Exit.then]); refine bodyPost_ret (results_none rfl _ _ _) rfl ?_)
      exact ⟨rfl, World.grownBy.refl _ _, s, HV.out, HM.out⟩
    · rw [decide_eq_false hin] at hl
      have HV := Lib.hid (VisTo.start (E := BackE r) hnd hin)
      have Hlt := Lib.hid hlt
      have Hm := Lib.hid hm
      have HBM := Lib.hid hbm
      obtain ⟨-, hbl, hBl, hne, nn, D, hnn, hown, hset⟩ := hmap
      have Hown := Lib.hid hown
      have Hset := Lib.hid (setK_put keyN_inj keyN_lit hset (v := n) (by unfold okN; omega))
      have Hnn := Lib.hid hnn
      have hsl := nodup_lt hnd hlt
      clear hbm hin hlt hnd hm hown hset hnn
      go_enter Try.func25, Try.ntmps25
      go_wp2_with (at_mapUpdate; refine wpList_mapUpdate_own _ rfl _ _ _ 59 rfl 3 4 (Maps.int_keyed Try.underlying3) Try.underlying59 Rv B nn D rfl Hown.out (by have := Hnn.out; unfold maxLen; omega) _ _ _ rfl rfl (keyN_of (by unfold okN; omega)) _ [] rfl ?_)
      intro w1 hown1 hg1
      have G1 := Lib.hid hg1
      have HM1 := Lib.hid (show MapN w1 bs B (s ++ [n]) from
        ⟨(grown_cell hg1 hbl (fun e => hne (Option.some.inj e).symm)).trans hc, Nat.lt_of_lt_of_le hbl hg1.size, Nat.lt_of_lt_of_le hBl hg1.size, hne, nn + 1, _, by rw [List.length_append]; have := Hnn.out; simp; omega, hown1, Hset.out⟩)
      have K := fun {W' : World} (h : w.grownBy W' (some B)) => Lib.hid (HBM.out.grow h)
      obtain ⟨ct, lt, nt, cf, lf, nf, hE⟩ := (K hg1).out
      clear hown1 hg1 hl hc cf hE
      go_wp2_with fail
      clear ct lt lf
      go_loopw [15] (fun i wr => ∃ (k : Nat) (t : List Nat), k ≤ r.lks.length ∧ i = .int .i64 k ∧ Hid (VisTo (BackE r) n (fun y => ∃ j, j < k ∧ (edgL r)[j]? = some (y, n)) s t) ∧ Hid (MapN wr bs B t) ∧ Hid (w.grownBy wr (some B))) (fun i _ => r.lks.length - (intOf i).toNat)
      case atStart => exact ⟨0, s ++ [n], Nat.zero_le _, rfl, Lib.hid (HV.out.skip fun z ⟨j, hj, _⟩ => absurd hj (Nat.not_lt_zero _)), HM1, G1⟩
      case round =>
        obtain ⟨k, t, hk, rfl, hV, hMt, hgr⟩ := hrel
        obtain ⟨ct, lt, nt, cf, lf, nf, hE⟩ := (K hgr.out).out
        by_cases hkl : k < r.lks.length
        · obtain ⟨_, _, ee, -, -, -, -, x5⟩ := hE
          simp only [Value.slice.injEq, true_and] at ee
          obtain ⟨rfl, rfl⟩ := ee
          obtain ⟨b1, o1, rfl, -, l1, c0, c1, -, -⟩ := x5.edg hkl
          obtain ⟨a, b, ha, hb2, hab, h1, h2⟩ := edgL_at hrg hkl
          have hab2 := Lib.hid (show (edgL r)[k]? = some (a, b) by rw [List.getElem?_eq_getElem (by rw [edgL_len]; exact hkl), hab])
          rw [ha] at c0
          rw [hb2] at c1
          have hkI : (k : Int) < (r.lks.length : Int) := by omega
          have hk0 : (0 : Int) ≤ (k : Int) := by omega
          have HBr := Lib.hid (K hgr.out).out
          have Cf := Lib.hid cf
          unfold backV at cf
          clear x5 ha hb2 hab ct
          by_cases hbn : b = n
          · subst hbn
            have hbe : ((b : Int) == (b : Int)) = true := by simp
            go_wp2_with fail
            have HA := Lib.hid (Seq.way : Below wr.heap.size wr (wr.alloc (.cells #[.int .i64 (a : Int), .int .i64 (b : Int)] 35)))
            refine (ih (n := a) (s := t) h1 hV.out.nd (hV.out.lt Hlt.out hn (backE_lt hrg)) (by have h3 := hV.out.len; have h4 := Hm.out; omega) (hMt.out.at HA.out) (HBr.out.grow (World.grownBy_alloc _ _ _))).mono ?_
            rintro e z1 ⟨rfl, hg1, t', hv1, hm1⟩
            have HG := Lib.hid (grown_trans (grown_of hgr.out HA.out) hg1)
            have HM2 := Lib.hid hm1
            have HV2 := Lib.hid ((hV.out.step (show BackE r b a from List.mem_of_getElem? hab2.out) hv1).skip (D' := fun y => ∃ j, j < k + 1 ∧ (edgL r)[j]? = some (y, b)) fun z ⟨j, hj, hz⟩ => by
              by_cases e : j = k
              · subst e
                rw [hab2.out] at hz
                simp only [Option.some.injEq, Prod.mk.injEq] at hz
                exact .inr hz.1.symm
              · exact .inl ⟨j, by omega, hz⟩)
            clear hg1 hv1 hm1
            go_wp2_with fail
            go_roundw
            case rel => exact ⟨k + 1, t', hkl, by go_num, HV2, HM2, HG⟩
            case measure => simp [intOf]; omega
          · have hbe : ((b : Int) == (n : Int)) = false := by simp; omega
            have hbe2 : ((b : Int) = (n : Int)) = False := eq_false (by omega)
            go_wp2_with fail
            go_roundw
            case rel => exact ⟨k + 1, t, hkl, by go_num, Lib.hid (hV.out.skip fun z ⟨j, hj, hz⟩ => by
              by_cases e : j = k
              · subst e
                rw [hab2.out] at hz
                simp only [Option.some.injEq, Prod.mk.injEq] at hz
                exact absurd hz.2 hbn
              · exact ⟨j, by omega, hz⟩), Lib.hid (hMt.out.at Seq.way), Lib.hid (grown_of hgr.out Seq.way)⟩
            case measure => simp [intOf]; omega
        · have hkI : ¬ (k : Int) < (r.lks.length : Int) := by omega
          have hfin := Lib.hid (hV.out.fin fun y hy => by
            obtain ⟨j, hj⟩ := List.getElem?_of_mem hy
            refine ⟨j, ?_, hj⟩
            have := (List.getElem?_eq_some_iff.1 hj).1
            rw [edgL_len] at this; omega)
          clear hkl
          go_wp2_with fail
          go_end0
          exact ⟨rfl, hgr.out, t, hfin.out, hMt.out⟩

theorem rea_back {r : Res} {x i : Nat} : Pth (BackE r) x i ↔ Rea (edgL r) i x := by
  constructor
  · intro h
    induction h with
    | refl => exact .refl
    | step _ e ih => exact (Rea.one e).trans ih
  · intro h
    induction h with
    | refl => exact .refl
    | step _ e ih => exact (Pth.one (E := BackE r) e).trans ih
theorem meetB_iff {a b : List Nat} : meetB (natsZ a) (natsZ b) = true ↔ ∃ x, x ∈ a ∧ x ∈ b := by
  unfold meetB
  rw [List.any_eq_true]
  constructor
  · rintro ⟨x, hx, h⟩
    unfold natsZ at hx
    obtain ⟨y, hy, rfl⟩ := List.mem_map.1 hx
    rw [decide_eq_true_eq, natsZ_mem] at h
    exact ⟨y, hy, h⟩
  · rintro ⟨x, h1, h2⟩
    exact ⟨(x : Int), natsZ_mem.2 h1, by rw [decide_eq_true_eq, natsZ_mem]; exact h2⟩
theorem reaL_iff {r : Res} (hrg : RngR r) {i x : Nat} (hi : i < r.tabs.length) : x ∈ reaL r i ↔ Rea (edgL r) i x := by
  unfold reaL
  rw [mem_reachL, (edgL_gr hrg).re hi]
theorem drtB_iff {r : Res} {c : List (List Cell)} (hrg : RngR r) {i : Nat} (hi : i < r.tabs.length) : drtB r c i = true ↔ ∃ x, x ∈ touchL r c ∧ Rea (edgL r) i x := by
  unfold drtB
  rw [meetB_iff]
  exact ⟨fun ⟨x, h1, h2⟩ => ⟨x, h2, (reaL_iff hrg hi).1 h1⟩, fun ⟨x, h1, h2⟩ => ⟨x, (reaL_iff hrg hi).2 h2, h1⟩⟩
theorem fltN_congr {f g : Nat → Bool} {k : Nat} (h : ∀ i, i < k → f i = g i) : fltN f k = fltN g k := by
  unfold fltN
  exact List.filter_congr fun i hi => h i (List.mem_range.1 hi)
theorem dirty_of {r : Res} {c : List (List Cell)} {t : List Nat} (hrg : RngR r) (h : Clo (BackE r) (fun x => x ∈ touchL r c) t) : fltN (fun i => decide (i ∈ t)) r.tabs.length = dirtyL r c := by
  unfold dirtyL
  refine fltN_congr fun i hi => ?_
  rw [Bool.eq_iff_iff, decide_eq_true_eq, h.iff, drtB_iff hrg hi]
  exact ⟨fun ⟨x, h1, h2⟩ => ⟨x, h1, rea_back.1 h2⟩, fun ⟨x, h1, h2⟩ => ⟨x, h1, rea_back.2 h2⟩⟩
theorem touchL_lt {r : Res} {c : List (List Cell)} {x : Nat} (h : x ∈ touchL r c) : x < r.tabs.length := (fltN_mem.1 h).1

set_option maxHeartbeats 6400000 in
set_option maxRecDepth 100000 in
theorem DirtyP_spec {S T : Nat → Prop} {w : World} {v u : Value} {r : Res} {c : List (List Cell)} (hr : ResV S w v r) (hc : Seq (seqE cellE) T w u c) (hro : ResOK r) (hcr : ∀ t ∈ r.tabs, RightT t.call) (hok : ChgOK c) :
    Calls Try.prog 14 #[v, u] w (Ret (fun o w' => Seq intE (fun b => w.heap.size ≤ b) w' o (natsZ (dirtyL r c))) w) := by
  obtain ⟨ta, tc, ia, il, ic, la, lc, rfl, hT, hE⟩ := hr
  obtain ⟨W, hW⟩ : ∃ W, W = w.alloc (.cells #[.slice ta r.tabs.length tc, .slice ia il ic, .slice la r.lks.length lc] 26) := ⟨_, rfl⟩
  have HBW := Lib.hid (show Below w.heap.size w W by rw [hW]; exact Seq.way)
  have HT := Lib.hid (hT.any.at HBW.out)
  have HE := Lib.hid (hE.any.at HBW.out)
  have HW := Lib.hid hW
  obtain ⟨bt, hbt⟩ : ∃ b, b = w.heap.size := ⟨_, rfl⟩
  have Hbt := Lib.hid hbt
  have HR := Lib.hid (show RowA 26 W bt [.slice ta r.tabs.length tc, .slice ia il ic, .slice la r.lks.length lc] by rw [hW, hbt]; exact Row.new w [_, _, _] _ rfl)
  have Kr := fun {W' : World} (h : Below W.heap.size W W') => Lib.hid (show W'.cell? ⟨bt, 0, none⟩ = some (.slice ta r.tabs.length tc) ∧ W'.cell? ⟨bt, 1, none⟩ = some (.slice ia il ic) ∧ W'.cell? ⟨bt, 2, none⟩ = some (.slice la r.lks.length lc) ∧ bt < W'.heap.size from
    ⟨(HR.out.at h).row.cell (j := 0) (by simp), (HR.out.at h).row.cell (j := 1) (by simp), (HR.out.at h).row.cell (j := 2) (by simp), (HR.out.at h).row.lt⟩)
  clear hT hE hW hbt
  have HC := Lib.hid (hc.at HBW.out)
  have Hok := Lib.hid hok
  have Hcr := Lib.hid hcr
  have Hro := Lib.hid hro
  have hrl := hro.tl
  obtain ⟨ca, cc, rfl⟩ := hc.shape
  have hmm := @run_makeMap Try.prog
  clear hc hok hcr hro
  go_enter Try.func14, Try.ntmps14
  go_upto_region 1 with fail
  rw [← HW.out, ← Hbt.out]
  obtain ⟨r0, r1, r2, rl⟩ := (Kr (Below.refl _ W)).out
  go_upto_region 4 with fail
  obtain ⟨W2, hW2⟩ : ∃ W2, W2 = ((W.alloc (.map #[] 0)).alloc (.cells #[.map (some W.heap.size)] 59)).alloc (.cells #[backV (W.heap.size + 1) bt (W.heap.size + 1 + 1)] 60) := ⟨_, rfl⟩
  have HB2 := Lib.hid (show Below W.heap.size W W2 by rw [hW2]; exact Seq.way)
  have hm0 : MapN W2 (W.heap.size + 1) W.heap.size [] := by
    have h3 := (Row.new (W.alloc (.map #[] 0)) [.map (some W.heap.size)] 59 (B := W.heap.size + 1) (by simp)).alloc (.cells #[backV (W.heap.size + 1) bt (W.heap.size + 1 + 1)] 60)
    rw [hW2]
    exact ⟨h3.cell (j := 0) (by simp), h3.lt, by simp; omega, by omega, 0, _, Nat.le_refl _, ((World.ownsMap_made W Try.prog 3 Rv).alloc _).alloc _, setK_nil _ _⟩
  have hbm0 : BackM W2 r (W.heap.size + 1) bt (W.heap.size + 1 + 1) W.heap.size la lc := by
    have h3 := Row.new ((W.alloc (.map #[] 0)).alloc (.cells #[.map (some W.heap.size)] 59)) [backV (W.heap.size + 1) bt (W.heap.size + 1 + 1)] 60 (B := W.heap.size + 1 + 1) (by simp)
    rw [← show W2 = _ from hW2] at h3
    have h4 := (Kr HB2.out).out
    exact ⟨h4.2.2.1, h4.2.2.2, by omega, h3.cell (j := 0) (by simp), h3.lt, by omega, (HE.out.bnd.at HB2.out).mono (fun b hb _ => by have := hb.2; omega) fun _ _ _ => rfl⟩
  have hbtw := rl
  rw [show ((W.alloc (.map #[] 0)).alloc (.cells #[.map (some W.heap.size)] 59)).alloc (.cells #[.func (.func 25) #[] #[.pointer (some ⟨W.heap.size + 1, 0, none⟩), .pointer (some ⟨bt, 0, none⟩), .pointer (some ⟨W.heap.size + 1 + 1, 0, none⟩)]] 60) = W2 from hW2.symm]
  have hz2 : W2.heap.size = W.heap.size + 3 := by rw [hW2]; simp
  obtain ⟨bs, hbs⟩ : ∃ b, b = W.heap.size + 1 := ⟨_, rfl⟩
  obtain ⟨bf, hbf⟩ : ∃ b, b = W.heap.size + 1 + 1 := ⟨_, rfl⟩
  obtain ⟨Bm, hBm⟩ : ∃ b, b = W.heap.size := ⟨_, rfl⟩
  simp only [← hbf] at hm0 hbm0 ⊢
  simp only [← hbs] at hm0 hbm0 ⊢
  simp only [← hBm] at hm0 hbm0 ⊢
  have Hz := Lib.hid (show Bm = W.heap.size ∧ Bm < W2.heap.size from ⟨hBm, by omega⟩)
  have HM0 := Lib.hid hm0
  have HK := fun {W' : World} (h : W2.grownBy W' (some Bm)) => Lib.hid (hbm0.grow h)
  have hfW := fun {W' : World} (h : W2.grownBy W' (some Bm)) => Lib.hid (show Below w.heap.size w W' from (below_step HB2.out HBW.out).trans (grown_below h (by have := Hz.out.1; have := HBW.out.size; omega) (by have := HB2.out.size; have := HBW.out.size; omega)))
  have Kb := fun {W' : World} (h : W2.grownBy W' (some Bm)) => Lib.hid (show W'.cell? ⟨bt, 0, none⟩ = some (.slice ta r.tabs.length tc) ∧ W'.cell? ⟨bt, 1, none⟩ = some (.slice ia il ic) ∧ W'.cell? ⟨bt, 2, none⟩ = some (.slice la r.lks.length lc) ∧ bt < W'.heap.size from by
    have h4 := (Kr HB2.out).out
    have hne : some Bm ≠ some bt := fun e => by simp only [Option.some.injEq] at e; omega
    exact ⟨(grown_cell h h4.2.2.2 hne).trans h4.1, (grown_cell h h4.2.2.2 hne).trans h4.2.1, (grown_cell h h4.2.2.2 hne).trans h4.2.2.1, Nat.lt_of_lt_of_le h4.2.2.2 h.size⟩)
  clear hW2 hm0 hbm0 hbs hbf hBm r0 r1 r2 rl hmm
  obtain ⟨r0, r1, r2, rl⟩ := (Kb (World.grownBy.refl W2 _)).out
  go_wp2_with fail
  refine (TouchedP_spec (ResV.mk (HT.out.at HB2.out) (HE.out.at HB2.out)) (HC.out.at HB2.out) Hro.out.tl Hcr.out Hok.out).mono ?_
  rintro e w3 ⟨v3, rfl, hb3, hs3⟩
  have G3 := Lib.hid (grown_of (World.grownBy.refl W2 (some Bm)) hb3)
  have hM3 := Lib.hid (HM0.out.at hb3)
  have hdef := Lib.hid (fun t h => dirty_of (r := r) (c := c) (t := t) Hro.out.rg h)
  have htlt := Lib.hid (fun x (h : x ∈ touchL r c) => touchL_lt h)
  have htl := touchL_len r c
  rw [natsZ_len] at htl
  obtain ⟨tl, htlx⟩ : ∃ t, t = touchL r c := ⟨_, rfl⟩
  rw [← htlx] at hs3 hdef htlt htl
  have HS3 := Lib.hid (show Seq intE (fun b => b ≠ Bm) w3 v3 (natsZ tl) from hs3.mono (fun b hb _ => by have := Hz.out.2; omega) fun _ _ _ => rfl)
  obtain ⟨ua, uc, huv⟩ := hs3.shape
  rw [natsZ_len] at huv
  subst huv
  clear hs3 hb3 htlx r0 r1 r2 rl
  go_wp2_with fail
  go_loopw [17] (fun i wz => ∃ (k : Nat) (t : List Nat), k ≤ tl.length ∧ i = .int .i64 k ∧ Hid (Clo (BackE r) (fun x => x ∈ tl.take k) t) ∧ Hid (MapN wz bs Bm t) ∧ Hid (w3.grownBy wz (some Bm))) (fun i _ => tl.length - (intOf i).toNat)
  case atStart => exact ⟨0, [], Nat.zero_le _, rfl, Lib.hid ((Clo.nil _).same (by simp)), hM3, Lib.hid (World.grownBy.refl _ _)⟩
  case round =>
    obtain ⟨k, t, hk, rfl, hcl, hMt, hgr⟩ := hrel
    have hg2 := Lib.hid (grown_trans G3.out hgr.out)
    by_cases hkl : k < tl.length
    · obtain ⟨_, _, ee, -, -, -, -, x5⟩ := grown_seq HS3.out hgr.out (fun b hb e => hb (Option.some.inj e).symm)
      simp only [Value.slice.injEq] at ee
      obtain ⟨rfl, -, rfl⟩ := ee
      obtain ⟨b1, o1, rfl, -, l1, c0, -⟩ := x5.int (k := k) (by rw [natsZ_len]; exact hkl)
      rw [natsZ_get hkl] at c0
      have hxl := htlt.out _ (List.getElem_mem hkl)
      have hts := Lib.hid (fun z => show (z ∈ tl.take k ∨ z = tl[k]) ↔ z ∈ tl.take (k + 1) by rw [List.take_succ_eq_append_getElem hkl, List.mem_append, List.mem_singleton])
      obtain ⟨x, hx⟩ : ∃ x, x = tl[k] := ⟨_, rfl⟩
      rw [← hx] at c0 hts hxl
      have hkI : (k : Int) < (tl.length : Int) := by omega
      have hk0 : (0 : Int) ≤ (k : Int) := by omega
      have HBr := Lib.hid (HK hg2.out).out
      have cf := HBr.out.cf
      have lf := HBr.out.lf
      unfold backV at cf
      have htlN := Lib.hid (fun y (hy : y ∈ t) => show y < r.tabs.length from by
        obtain ⟨q, hq, hp⟩ := hcl.out.snd y hy
        exact hp.closed (P := fun y => y < r.tabs.length) (fun a b ha e => backE_lt Hro.out.rg a b e ha) (htlt.out q (List.mem_of_mem_take hq)))
      clear x5 hx
      go_wp2_with fail
      refine (back_spec Hro.out.rg Hro.out.tl Hro.out.ll r.tabs.length (n := x) (s := t) hxl hcl.out.nd htlN.out (by omega) hMt.out HBr.out).mono ?_
      rintro e z1 ⟨rfl, hg1, t', hv1, hm1⟩
      have HG := Lib.hid (grown_trans hgr.out hg1)
      have HM2 := Lib.hid hm1
      have HC2 := Lib.hid ((hcl.out.add hv1).same hts.out)
      clear hg1 hv1 hm1 c0 cf lf
      go_wp2_with fail
      go_roundw
      case rel => exact ⟨k + 1, t', hkl, by go_num, HC2, HM2, HG⟩
      case measure => simp [intOf]; omega
    · have hkI : ¬ (k : Int) < (tl.length : Int) := by omega
      have hfl := Lib.hid (hdef.out t (by
        have h := hcl.out
        rw [List.take_of_length_le (by omega)] at h
        exact h))
      obtain ⟨w4, rfl⟩ : ∃ Z, Z = wr := ⟨_, rfl⟩
      obtain ⟨r0, r1, r2, rl⟩ := (Kb hg2.out).out
      have HM4 := Lib.hid hMt.out
      clear hkl
      go_wp2_with fail
      clear r0 r1 r2 rl
      have hown0 := Lib.hid (show Own intE (fun _ => False) w4.heap.size 3 w4 (.slice none 0 0) (natsZ (fltN (fun i => decide (i ∈ t)) 0)) from Own.nil _ _ _ _ _)
      obtain ⟨f, hf⟩ : ∃ f, f = (fun i : Nat => decide (i ∈ t)) := ⟨_, rfl⟩
      have Hf := Lib.hid (fun i : Nat => show decide (i ∈ t) = f i by rw [hf])
      rw [← hf] at hown0 hfl
      clear hf
      go_loopw [9, 28] (fun o i wz => ∃ k : Nat, k ≤ r.tabs.length ∧ i = .int .i64 k ∧ Hid (Own intE (fun _ => False) w4.heap.size 3 wz o (natsZ (fltN f k))) ∧ Hid (Below w4.heap.size w4 wz)) (fun _ i _ => r.tabs.length - (intOf i).toNat)
      case atStart => exact ⟨0, Nat.zero_le _, rfl, hown0, Lib.hid (Below.refl _ _)⟩
      case round =>
        obtain ⟨k, hk, rfl, hown, hbz⟩ := hrel
        have hzr := hbz.out.size
        have hln2 := fltN_len f k
        have hsq := Lib.hid (hown.out.seq (S := fun _ => False) (T := fun _ => True) (by omega) fun _ _ _ => trivial)
        obtain ⟨oa, oc, rfl⟩ := hsq.out.shape
        by_cases hkl : k < r.tabs.length
        · have hkI : (k : Int) < (r.tabs.length : Int) := by omega
          have hk0 : (0 : Int) ≤ (k : Int) := by omega
          have hmz := HM4.out.at hbz.out
          have hl := hmz.look (v := k) (by unfold okN; omega)
          have hc0 := hmz.1
          have hc1 := hmz.2.1
          rw [Hf.out k] at hl
          obtain ⟨q, hq⟩ : ∃ q, q = f k := ⟨_, rfl⟩
          rw [← hq] at hl
          have Hq := Lib.hid hq
          clear hmz hq
          cases q with
          | false =>
            have hno2 := Lib.hid (fltN_no Hq.out.symm)
            go_wp2_with fail
            go_roundw
            case rel => exact ⟨k + 1, hkl, by go_num, Lib.hid (by rw [hno2.out]; exact hown.out), hbz⟩
            case measure => simp [intOf]; omega
          | true =>
            have hy2 := Lib.hid (fltN_yes Hq.out.symm)
            go_wp2_with (at_builtin; refine wpList_app_int rfl _ _ 31 rfl Try.underlying31 infoInt rfl hown.out rfl (y := (k : Int)) Seq.way ⟨by omega, by omega⟩ ?_ ?_ ?_ ?_)
            · go_simp
            · omega
            · exact hzr
            · intro ao cap w' hown' hkept
              have H' := Lib.hid hown'
              have K' := Lib.hid (Below.trans hbz.out (Below.trans (Below.mono (Seq.way : Below _ _ _) hzr) hkept.below))
              clear hown' hkept hl hc0 hc1
              go_wp2_with fail
              go_roundw
              case rel => exact ⟨k + 1, hkl, by go_num, Lib.hid (by rw [hy2.out]; simpa using H'.out), K'⟩
              case measure => simp [intOf]; omega
        · have hkI : ¬ (k : Int) < (r.tabs.length : Int) := by omega
          have hke := Lib.hid (show k = r.tabs.length by omega)
          have hfin := Lib.hid (show Seq intE (fun b => w.heap.size ≤ b) wr (.slice oa (natsZ (fltN f k)).length oc) (natsZ (dirtyL r c)) by
            rw [← hfl.out, ← hke.out]
            have h1 := (hfW hg2.out).out.size
            exact hown.out.seq (by omega) fun b _ hb => hb.elim False.elim fun h => by omega)
          clear hkl
          go_wp2_with fail
          go_ret
          exact ⟨_, rfl, below_step hbz.out (hfW hg2.out).out, hfin.out⟩
end
end Go.Proofs.Ytbcambjonjhopaa
