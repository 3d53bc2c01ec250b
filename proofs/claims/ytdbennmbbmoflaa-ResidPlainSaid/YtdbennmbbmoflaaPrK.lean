/-
  Layer 18, the program: package slices at numbers: Clone, DeleteFunc.
-/
import Derived.Test.YtdbennmbbmoflaaPrJ
namespace Go.Proofs.Ytdbennmbbmoflaa
open Go Go.RowKit

/-- The place of the first one. -/
theorem findIdx_at {P : Int → Bool} {l : List Int} {k : Nat} (hk : k < l.length) (h : ∀ x ∈ l.take k, P x = false) (hp : P l[k] = true) : l.findIdx P = k := by
  rw [List.findIdx_eq hk]
  exact ⟨hp, fun j hj => h _ (by rw [List.mem_iff_getElem]; exact ⟨j, by rw [List.length_take]; omega, by rw [List.getElem_take]⟩)⟩

set_option maxHeartbeats 1600000 in
theorem IndexFuncD_spec {S T : Nat → Prop} {w : World} {v : Value} {g : Prog} {j kb sb : Nat} {l : List Int} (hl : Seq intE T w v l) (h : Clo S w g j kb sb) (hin : ∀ x ∈ l, 0 ≤ x ∧ x < g.atoms.length) (hex : l.any (isGone g (followsL g) ((j : Int) + 1)) = true) :
    Calls Try.prog 62 #[v, .func (.func 38) #[] #[.pointer (some ⟨kb, 0, none⟩), .pointer (some ⟨sb, 0, none⟩)]] w (RetV (.int .i64 (l.findIdx (isGone g (followsL g) ((j : Int) + 1)) : Nat)) w) := by
  obtain ⟨P, hP⟩ : ∃ P, P = isGone g (followsL g) ((j : Int) + 1) := ⟨_, rfl⟩
  have HP := Lib.hid hP
  obtain ⟨ao, cap, rfl, h1, h2, h3, h4, h5⟩ := hl
  rw [← hP] at hex ⊢
  have Hex := Lib.hid hex
  clear hP hex
  go_enter Try.func62, Try.ntmps62
  go_wp2_with fail
  go_loopw [8] (fun i wr => ∃ k : Nat, k ≤ l.length ∧ i = .int .i64 k ∧ Hid (∀ x ∈ l.take k, P x = false) ∧ Below w.heap.size w wr) (fun i _ => l.length - (intOf i).toNat)
  case atStart => exact ⟨0, Nat.zero_le _, rfl, Lib.hid (by simp), Seq.way⟩
  case round =>
    obtain ⟨k, hk, rfl, hno, hb⟩ := hrel
    by_cases hlt : k < l.length
    · obtain ⟨b, off, rfl, -, hbl, hc', -⟩ := h5.int hlt
      have hc := (hb.cell (p := ⟨b, off + k, none⟩) hbl).trans hc'
      have hx := hin _ (List.getElem_mem hlt)
      have hclo := Lib.hid (h.at hb)
      clear h5 hin
      obtain ⟨x, hxe⟩ : ∃ x, x = l[k] := ⟨_, rfl⟩
      rw [← hxe] at hc hx
      have Hxe := Lib.hid hxe
      clear hxe
      go_wp2_with fail
      refine (cloD_spec hclo.out hx.1 hx.2).mono ?_
      rw [← HP.out]
      rintro e w' ⟨rfl, hb'⟩
      have hbw := hb.trans (hb'.mono hb.size)
      cases hp : P x
      · have hst := Lib.hid (show ∀ y ∈ l.take (k + 1), P y = false by
          intro y hy
          rw [List.take_succ_eq_append_getElem hlt] at hy
          rcases List.mem_append.1 hy with h | h
          · exact hno.out y h
          · rw [List.mem_singleton] at h; rw [h, ← Hxe.out]; exact hp)
        clear hp
        go_wp2_with fail
        go_roundw
        case rel => exact ⟨k + 1, hlt, by go_num, hst, hbw⟩
        case measure => simp [intOf]; omega
      · have hst := Lib.hid (findIdx_at hlt hno.out (by rw [← Hxe.out]; exact hp))
        clear hp
        go_wp2_with fail
        go_ret
        exact ⟨ret_int (by rw [hst.out]), hbw⟩
    · obtain rfl : k = l.length := by omega
      exfalso
      have := Hex.out
      rw [List.any_eq_true] at this
      obtain ⟨x, hx, hp⟩ := this
      rw [hno.out x (by rw [List.take_length]; exact hx)] at hp
      simp at hp

set_option maxHeartbeats 1600000 in
set_option maxRecDepth 100000 in
theorem cloneI_spec {S : Nat → Prop} {w : World} {v : Value} {l : List Int} (hl : Seq intE S w v l) (hne : l ≠ []) (hlen : l.length ≤ 1000000000) :
    Calls Try.prog 36 #[v] w (Ret (fun o w' => ∃ g cap cur, o = .slice (some ⟨g, 0, none⟩) l.length cap ∧ w.heap.size ≤ g ∧ l.length ≤ cap ∧ cap ≤ maxLen ∧ cur.length = cap ∧ Row 3 w' g cur ∧ ∀ k (h : k < l.length), cur[k]? = some (.int .i64 l[k])) w) := by
  have hb := Lib.hid hl.bnd
  obtain ⟨ao, cap, rfl, h1, h2, h3, h4, h5⟩ := hl
  obtain ⟨b, off, rfl, -⟩ := h5.int (k := 0) (List.length_pos_iff.2 hne)
  clear h5 h4
  have hown : Own intE (fun b => S b ∧ b < w.heap.size) w.heap.size 3 (w.alloc (.cells #[] 3)) (.slice (some ⟨w.heap.size, 0, none⟩) 0 0) ([] : List Int) := Own.lit0 rfl (Nat.le_refl _) rfl
  have hba := Lib.hid (hb.out.at (Seq.way (w' := w.alloc (.cells #[] 3))))
  have hnil := fun (w : World) (a : Option Addr) (n c n' c' : Nat) => Lib.run_eql_slice_nil (P := Try.prog) w 24 3 a n c n' c' Try.underlying24
  go_enter Try.func36, Try.ntmps36
  go_wp2_with (at_builtin; refine wpList_appL (wm := w.alloc (.cells #[] 3)) (zs := l) rfl _ _ 24 rfl Try.underlying24 infoInt rfl rfl hown (Below.refl _ _) rfl hba.out (fun b h _ => ⟨h, .inl h.2⟩) rfl (by omega) (by omega) (by simp) ?_)
  intro ao' cap' w' hown' hkept
  have hb' := (Seq.way (w := w) (w' := w.alloc (.cells #[] 3)) (B := w.heap.size)).trans hkept.below
  have hfl : ∃ g cap cur, Value.slice ao' l.length cap' = .slice (some ⟨g, 0, none⟩) l.length cap ∧ w.heap.size ≤ g ∧ l.length ≤ cap ∧ cap ≤ maxLen ∧ cur.length = cap ∧ Row 3 w' g cur ∧ ∀ k (h : k < l.length), cur[k]? = some (.int .i64 l[k]) := by
    obtain ⟨vs, ⟨hl, hh⟩, h2⟩ := hown'
    rcases hh with ⟨-, h0⟩ | ⟨g, cap, cur, he, hb, hg, hc, hm, hs, ht⟩
    · exact absurd (List.eq_nil_of_length_eq_zero h0) hne
    · refine ⟨g, cap, cur.toList, he, hb, hc, hm, by simpa [intE] using hs, by unfold Row; simpa using hg, fun k hk => ?_⟩
      obtain ⟨c, ⟨rfl, _⟩, h4⟩ := h2 k _ (List.getElem?_eq_getElem hk)
      have h5 := h4 0 (by decide)
      rw [← ht, List.getElem?_take_of_lt (by show k * 1 + 0 < l.length * 1; omega)] at h5
      simpa [intE] using h5
  have Hfl := Lib.hid hfl
  clear hown hown' hkept hba hfl
  go_wp2_with fail
  go_ret
  obtain ⟨g, cap, cur, e1, e2, e3, e4, e5, e6, e7⟩ := Hfl.out
  exact ⟨_, rfl, hb', g, cap, cur, e1, e2, e3, e4, e5, e6, e7⟩

theorem zeroI (w : World) : (zeroValue 3).run Try.prog w = .ok (.int .i64 0) w := by kernel_rfl

/-- Those of the first j that stay. -/
def stayL (P : Int → Bool) (l : List Int) (j : Nat) : List Int := (l.take j).filter fun x => !P x
theorem stayL_yes {P : Int → Bool} {l : List Int} {j : Nat} (hj : j < l.length) (h : P l[j] = false) : stayL P l (j + 1) = stayL P l j ++ [l[j]] := by
  unfold stayL; rw [List.take_succ_eq_append_getElem hj, List.filter_append]; simp [h]
theorem stayL_no {P : Int → Bool} {l : List Int} {j : Nat} (hj : j < l.length) (h : P l[j] = true) : stayL P l (j + 1) = stayL P l j := by
  unfold stayL; rw [List.take_succ_eq_append_getElem hj, List.filter_append]; simp [h]
theorem stayL_len (P : Int → Bool) (l : List Int) (j : Nat) : (stayL P l j).length ≤ j := by
  unfold stayL
  have := List.length_filter_le (fun x => !P x) (l.take j)
  rw [List.length_take] at this; omega
theorem stayL_first {P : Int → Bool} {l : List Int} (h : l.findIdx P < l.length) : stayL P l (l.findIdx P) = l.take (l.findIdx P) := by
  unfold stayL
  rw [List.filter_eq_self]
  intro x hx
  obtain ⟨j, hj, rfl⟩ := List.mem_iff_getElem.1 hx
  rw [List.length_take] at hj
  rw [List.getElem_take]
  have := List.not_of_lt_findIdx (p := P) (xs := l) (i := j) (by omega)
  simpa using this

set_option maxHeartbeats 4000000 in
set_option maxRecDepth 100000 in
theorem deleteF_spec {S : Nat → Prop} {w0 w : World} {g : Prog} {j kb sb b cap : Nat} {l : List Int} {cur : List Value} (h0 : Clo S w0 g j kb sb) (hw : Below w0.heap.size w0 w) (hb : w0.heap.size ≤ b) (hR : Row 3 w b cur) (hcl : cur.length = cap) (hlc : l.length ≤ cap) (hm : cap ≤ maxLen) (hlen : l.length ≤ 1000000000)
    (hcell : ∀ k (h : k < l.length), cur[k]? = some (.int .i64 l[k])) (hin : ∀ x ∈ l, 0 ≤ x ∧ x < g.atoms.length) (hok : ∀ x ∈ l, IntOK x) (hex : l.any (isGone g (followsL g) ((j : Int) + 1)) = true) :
    Calls Try.prog 35 #[.slice (some ⟨b, 0, none⟩) l.length cap, .func (.func 38) #[] #[.pointer (some ⟨kb, 0, none⟩), .pointer (some ⟨sb, 0, none⟩)]] w
      (fun e w' => e = .returned (.slice (some ⟨b, 0, none⟩) (stayL (isGone g (followsL g) ((j : Int) + 1)) l l.length).length cap) ∧ Below w0.heap.size w0 w' ∧ Hid (∀ c, c < w.heap.size → c ≠ b → w'.heap[c]? = w.heap[c]?) ∧ w.heap.size ≤ w'.heap.size ∧
        ∃ cur', Row 3 w' b cur' ∧ ∀ t (h : t < (stayL (isGone g (followsL g) ((j : Int) + 1)) l l.length).length), cur'[t]? = some (.int .i64 (stayL (isGone g (followsL g) ((j : Int) + 1)) l l.length)[t])) := by
  obtain ⟨P, hP⟩ : ∃ P, P = isGone g (followsL g) ((j : Int) + 1) := ⟨_, rfl⟩
  have hs : Seq intE (fun _ => True) w (.slice (some ⟨b, 0, none⟩) l.length cap) l := by
    refine hR.seq rfl hlc hm (by omega) trivial fun k x hx => ?_
    have hk := (List.getElem?_eq_some_iff.1 hx).1
    refine ⟨[.int .i64 x], ⟨rfl, hok x (List.mem_of_getElem? hx)⟩, fun t ht => ?_⟩
    obtain rfl : t = 0 := by have : t < 1 := ht; omega
    rw [show k * intE.sz + 0 = k by simp [intE], hcell k hk]
    rw [List.getElem?_eq_getElem hk] at hx
    simp at hx; simp [hx]
  have hspec := Lib.hid (IndexFuncD_spec hs (h0.at hw) hin hex)
  have hfl : l.findIdx P < l.length := by
    rw [List.findIdx_lt_length]
    rw [hP]
    exact List.any_eq_true.1 hex
  have hfp : P (l[l.findIdx P]'hfl) = true := List.findIdx_getElem
  rw [← hP] at hspec ⊢
  have HP := Lib.hid hP
  have hst := stayL_first (P := P) hfl
  have hst1 := stayL_no (P := P) hfl hfp
  obtain ⟨i0, hi0⟩ : ∃ i0, i0 = l.findIdx P := ⟨_, rfl⟩
  rw [← hi0] at hst hst1 hspec hfl
  have hst2 : stayL P l (i0 + 1) = l.take i0 := hst1.trans hst
  have hst2l : (stayL P l (i0 + 1)).length = i0 := by rw [hst2, List.length_take]; omega
  have hst2c : ∀ t (h : t < (stayL P l (i0 + 1)).length), cur[t]? = some (.int .i64 (stayL P l (i0 + 1))[t]) := by
    intro t h
    rw [hcell t (by omega)]
    simp only [hst2, List.getElem_take]
  have Hst2l := Lib.hid hst2l
  have Hst2c := Lib.hid hst2c
  have Hcell := Lib.hid hcell
  clear hP hst hst1 hst2 hst2l hst2c hcell hs hi0 hfp hex hok
  unfold maxLen at hm
  go_enter Try.func35, Try.ntmps35
  go_wp2_with fail
  refine hspec.out.mono ?_
  rintro e w1 ⟨rfl, hb1⟩
  have hi1 : ((i0 : Int) == -1) = false := by rw [beq_eq_false_iff_ne]; omega
  have hR1 := hR.below hb1 hR.lt
  have hw1 := hw.trans (hb1.mono hw.size)
  have hs1 := hb1.size
  have hfr1 := Lib.hid (show ∀ c, c < w.heap.size → c ≠ b → w1.heap[c]? = w.heap[c]? from fun c hc _ => hb1.block c hc)
  go_wp2_with fail
  go_loopw [5, 6] (fun i jj wr => ∃ n : Nat, n ≤ l.length ∧ i0 + 1 ≤ n ∧ jj = .int .i64 n ∧ i = .int .i64 ((stayL P l n).length : Nat) ∧ (stayL P l n).length < n ∧ Below w0.heap.size w0 wr ∧ Hid (∀ c, c < w.heap.size → c ≠ b → wr.heap[c]? = w.heap[c]?) ∧ w.heap.size ≤ wr.heap.size ∧
    ∃ cur, Row 3 wr b cur ∧ cur.length = cap ∧ Hid (∀ t (h : t < (stayL P l n).length), cur[t]? = some (.int .i64 (stayL P l n)[t])) ∧ Hid (∀ k (h : k < l.length), n ≤ k → cur[k]? = some (.int .i64 l[k]))) (fun _ jj _ => l.length - (intOf jj).toNat)
  case atStart =>
    refine ⟨i0 + 1, hfl, Nat.le_refl _, by go_num, by rw [Hst2l.out], by rw [Hst2l.out]; omega, hw1, hfr1, hs1, cur, hR1, hcl, Hst2c, Lib.hid fun k h _ => Hcell.out k h⟩
  case round =>
    clear hR1 hw1 hs1 hfr1 hR hcl
    obtain ⟨n, hn, hin1, rfl, rfl, hsl, hwr, hfr, hsz, cur, hRc, hcc, hfront, hback⟩ := hrel
    have hblt := hRc.lt
    by_cases hlt : n < l.length
    · have c0 : wr.cell? ⟨b, n, none⟩ = some (.int .i64 l[n]) := by
        rw [hRc.cell (j := n) (by omega), ← hback.out n hlt (Nat.le_refl _), List.getElem?_eq_getElem (by omega : n < cur.length)]
      have hx := hin _ (List.getElem_mem hlt)
      have hclo := Lib.hid (h0.at hwr)
      have hyes := fun h => Lib.hid (stayL_yes (P := P) hlt h)
      have hno := fun h => Lib.hid (stayL_no (P := P) hlt h)
      obtain ⟨x, hxe⟩ : ∃ x, x = l[n] := ⟨_, rfl⟩
      rw [← hxe] at c0 hx hyes hno
      have Hxe := Lib.hid hxe
      have Hyes := Lib.hid hyes
      have Hno := Lib.hid hno
      clear hxe hyes hno
      go_wp2_with fail
      refine (cloD_spec hclo.out hx.1 hx.2).mono ?_
      rw [← HP.out]
      rintro e w' ⟨rfl, hb'⟩
      have hwr' := hwr.trans (hb'.mono hwr.size)
      have hsz' := hb'.size
      have hR' := hRc.below hb' hblt
      have hfr' : ∀ c, c < w.heap.size → c ≠ b → w'.heap[c]? = w.heap[c]? := fun c hc hcb => (hb'.block c (by omega)).trans (hfr.out c hc hcb)
      have Hfr' := Lib.hid hfr'
      clear hfr'
      cases hp : P x
      · have hsn := Hyes.out hp
        have hml : (stayL P l n).length < cur.length := by omega
        have c1 := hR'.cell hml
        have c2 := hR'.frozen (stayL P l n).length
        clear hp
        go_wp2_with fail
        go_roundw
        case rel =>
          refine ⟨n + 1, hlt, by omega, by go_num, by rw [hsn.out]; simp, by rw [hsn.out]; simp; omega, hwr'.setCell hb _, Lib.hid fun c hc hcb => ?_, by simp; omega, _, hR'.set _ _, by simpa using hcc, Lib.hid fun t ht => ?_, Lib.hid fun k hk hk2 => ?_⟩
          · rw [Below.heap_setCell _ _ _ _ (fun e => hcb e)]; exact Hfr'.out c hc hcb
          · rw [hsn.out, List.length_append, List.length_singleton] at ht
            simp only [hsn.out]
            rw [List.getElem?_set]
            by_cases htm : t = (stayL P l n).length
            · subst htm
              rw [if_pos rfl, if_pos hml]; simp
            · have htl : t < (stayL P l n).length := by omega
              rw [if_neg (by omega), hfront.out t htl, List.getElem_append_left htl]
          · rw [List.getElem?_set_ne (by omega)]
            exact hback.out k hk (by omega)
        case measure => simp [intOf]; omega
      · have hsn := Hno.out hp
        clear hp
        go_wp2_with fail
        go_roundw
        case rel =>
          exact ⟨n + 1, hlt, by omega, by go_num, by rw [hsn.out], by rw [hsn.out]; omega, hwr', Hfr', by omega, cur, hR', hcc, Lib.hid (by simp only [hsn.out]; exact hfront.out), Lib.hid fun k hk hk2 => hback.out k hk (by omega)⟩
        case measure => simp [intOf]; omega
    · obtain rfl : n = l.length := by omega
      obtain ⟨m, hme⟩ : ∃ m, m = (stayL P l l.length).length := ⟨_, rfl⟩
      rw [← hme] at hsl ⊢
      have Hme := Lib.hid hme
      clear hme
      have hclr : ∀ ty, (Builtin.clear_ #[24] ty #[.slice (some ⟨b, m, none⟩) (l.length - m) (cap - m)]).run Try.prog wr = .ok (.tuple #[]) (wr.setCells b m (List.replicate (l.length - m) (.int .i64 0))) :=
        fun ty => Lib.run_clear_slice wr _ _ ty _ Try.underlying24 zeroI rfl rfl b m _ _ (by omega) (fun t ht => by rw [hRc.cell (j := m + t) (by omega)]; rfl) (fun t _ => hRc.frozen _)
      have hmc : ¬ cap = m := by omega
      have hR2 := Lib.hid (hRc.setCells (vs := List.replicate (l.length - m) (.int .i64 0)) (o := m) (by rw [List.length_replicate]; omega))
      have hG := Lib.hid (grown_setCells b (List.replicate (l.length - m) (Value.int .i64 0)) m wr)
      have hmcc : m ≤ cur.length := by omega
      go_wp2_with fail
      go_ret
      have e : Ending.returned (Value.slice (some ⟨b, 0, none⟩) m cap) = Ending.returned (Value.slice (some ⟨b, 0, none⟩) (stayL P l l.length).length cap) := by rw [Hme.out]
      refine ⟨e, hwr.trans (grown_below hG.out hb hwr.size), Lib.hid fun c hc hcb => ?_, Nat.le_trans hsz hG.out.size, _, hR2.out, fun t ht => ?_⟩
      · rw [hG.out.block c (by omega) (fun e => hcb (by simpa using e))]; exact hfr.out c hc hcb
      · rw [← List.getElem?_take_of_lt (by rw [Hme.out]; exact ht : t < m), splice_take _ _ _ hmcc, List.getElem?_take_of_lt (by rw [Hme.out]; exact ht)]
        exact hfront.out t ht
end Go.Proofs.Ytdbennmbbmoflaa
