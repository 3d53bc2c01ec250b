/-
  The program: facts.some at those that a row lacks; facts.Diff.
-/
import Derived.Test.YtceipnlpofebmaaTmY
namespace Go.Proofs.Ytceipnlpofebmaa
open Go Go.RowKit

def lackV (pb : Nat) : Value := .func (.func 28) #[] #[.pointer (some ⟨pb, 0, none⟩)]
/-- A box that holds row l. -/
structure Lack (S : Nat → Prop) (w : World) (pb : Nat) (l : List (List Cell)) : Prop where
  ex : ∃ v, Row 22 w pb [v] ∧ Seq (seqE cellE) S w v l
  sort : SortT l
  len : l.length ≤ 1000000
theorem Lack.at {S : Nat → Prop} {w w' : World} {pb : Nat} {l : List (List Cell)} (h : Lack S w pb l) (hb : Below w.heap.size w w') : Lack S w' pb l := by
  obtain ⟨v, h1, h2⟩ := h.ex
  exact ⟨⟨v, h1.below hb h1.lt, h2.at hb⟩, h.sort, h.len⟩

set_option maxHeartbeats 1600000 in
theorem lack_spec {S T : Nat → Prop} {w : World} {pb : Nat} {l : List (List Cell)} {u : Value} {x : List Cell} (h : Lack S w pb l) (hx : Seq cellE T w u x) :
    Calls Try.prog 28 #[u, .pointer (some ⟨pb, 0, none⟩)] w (RetV (.bool (!decide (x ∈ l))) w) := by
  have Hx := Lib.hid hx
  have hs := h.sort
  have hlen := h.len
  obtain ⟨v, h1, h2⟩ := h.ex
  have H2 := Lib.hid h2
  obtain ⟨aa, ac, rfl, -⟩ := h2
  obtain ⟨ba, bc, rfl, -⟩ := hx
  have c0 := h1.cell (j := 0) (by simp)
  simp only [List.getElem_cons_zero] at c0
  clear h1 h
  have Hs := Lib.hid hs
  clear hs
  go_enter Try.func28, Try.ntmps28
  go_wp2_with fail
  refine (find_spec H2.out Hx.out Hs.out hlen).mono ?_
  rintro e w1 ⟨rfl, hb1⟩
  go_wp2_with fail
  go_ret
  exact ⟨rfl, hb1⟩

def goneV (fb : Nat) : Value := .func (.func 47) #[] #[.pointer (some ⟨fb, 0, none⟩)]
structure Gone (S : Nat → Prop) (w : World) (fb : Nat) (l : List (List Cell)) : Prop where
  ex : ∃ pb, Row 40 w fb [lackV pb] ∧ Lack S w pb l
theorem Gone.at {S : Nat → Prop} {w w' : World} {fb : Nat} {l : List (List Cell)} (h : Gone S w fb l) (hb : Below w.heap.size w w') : Gone S w' fb l := by
  obtain ⟨pb, h1, h2⟩ := h.ex
  exact ⟨⟨pb, h1.below hb h1.lt, h2.at hb⟩⟩

set_option maxHeartbeats 1600000 in
theorem gone_spec {S T : Nat → Prop} {w : World} {fb : Nat} {l : List (List Cell)} {u : Value} {x : List Cell} (h : Gone S w fb l) (hx : Seq cellE T w u x) :
    Calls Try.prog 47 #[u, .pointer (some ⟨fb, 0, none⟩)] w (RetV (.bool (decide (x ∈ l))) w) := by
  have Hx := Lib.hid hx
  obtain ⟨pb, h1, h2⟩ := h.ex
  have H2 := Lib.hid h2
  obtain ⟨ba, bc, rfl, -⟩ := hx
  have c0 := h1.cell (j := 0) (by simp)
  simp only [List.getElem_cons_zero, lackV] at c0
  clear h1 h h2
  go_enter Try.func47, Try.ntmps47
  go_wp2_with fail
  refine (lack_spec H2.out Hx.out).mono ?_
  rintro e w1 ⟨rfl, hb1⟩
  go_wp2_with fail
  go_ret
  exact ⟨ret_bool (by simp), hb1⟩

/-- The place of the first, or -1. -/
def idxV (P : List Cell → Bool) (l : List (List Cell)) : Int := if l.any P = true then (l.findIdx P : Nat) else -1

theorem findIdx_atT {P : List Cell → Bool} {l : List (List Cell)} {k : Nat} (hk : k < l.length) (h : ∀ x ∈ l.take k, P x = false) (hp : P l[k] = true) : idxV P l = (k : Int) := by
  unfold idxV
  rw [if_pos (List.any_eq_true.2 ⟨_, List.getElem_mem hk, hp⟩)]
  congr 1
  rw [List.findIdx_eq hk]
  exact ⟨hp, fun j hj => h _ (by rw [List.mem_iff_getElem]; exact ⟨j, by rw [List.length_take]; omega, by rw [List.getElem_take]⟩)⟩

set_option maxHeartbeats 1600000 in
set_option maxRecDepth 100000 in
theorem indexT_spec {S T : Nat → Prop} {w : World} {v : Value} {fb : Nat} {m l : List (List Cell)} (hl : Seq (seqE cellE) T w v l) (h : Gone S w fb m) :
    Calls Try.prog 40 #[v, goneV fb] w (RetV (.int .i64 (idxV (fun x => decide (x ∈ m)) l)) w) := by
  obtain ⟨P, hP⟩ : ∃ P, P = (fun x : List Cell => decide (x ∈ m)) := ⟨_, rfl⟩
  have HP := Lib.hid hP
  have H := Lib.hid h
  obtain ⟨ao, cap, rfl, h1, h2, h3, h4, h5⟩ := hl
  rw [← hP]
  clear hP h
  unfold goneV
  go_enter Try.func40, Try.ntmps40
  go_wp2_with fail
  go_loopw [8] (fun i wr => ∃ k : Nat, k ≤ l.length ∧ i = .int .i64 k ∧ Hid (∀ x ∈ l.take k, P x = false) ∧ Below w.heap.size w wr) (fun i _ => l.length - (intOf i).toNat)
  case atStart => exact ⟨0, Nat.zero_le _, rfl, Lib.hid (by simp), Seq.way⟩
  case round =>
    obtain ⟨k, hk, rfl, hno, hbr⟩ := hrel
    have hzr := hbr.size
    by_cases hlt : k < l.length
    · obtain ⟨b1, o1, p1, n1, rfl, -, -, c0, hX⟩ := (h5.below hbr fun _ _ h => h).seq hlt
      have HX := Lib.hid hX
      have hxs := Lib.hid (show P l[k] = false → ∀ y ∈ l.take (k + 1), P y = false from fun hp y hy => by
        rw [List.take_succ_eq_append_getElem hlt] at hy
        rcases List.mem_append.1 hy with h | h
        · exact hno.out y h
        · rw [List.mem_singleton] at h; rw [h]; exact hp)
      have hxa := Lib.hid (show P l[k] = true → idxV P l = (k : Int) from fun hp => findIdx_atT hlt hno.out hp)
      obtain ⟨x, hxe⟩ : ∃ x, x = l[k] := ⟨_, rfl⟩
      rw [← hxe] at hxs hxa c0 HX
      clear hxe h5 hno hX
      have hkl : (k : Int) < (l.length : Int) := by omega
      have hk0 : (0 : Int) ≤ (k : Int) := by omega
      go_wp2_with fail
      refine (gone_spec (H.out.at hbr) HX.out).mono ?_
      rw [show decide (x ∈ m) = P x by rw [HP.out]]
      rintro e w' ⟨rfl, hb'⟩
      have hbw := below_step hb' hbr
      cases hp : P x
      · have hst := Lib.hid (hxs.out hp)
        clear hp
        go_wp2_with fail
        go_roundw
        case rel => exact ⟨k + 1, hlt, by go_num, hst, hbw⟩
        case measure => simp [intOf]; omega
      · have hst := Lib.hid (hxa.out hp)
        clear hp
        go_wp2_with fail
        go_ret
        exact ⟨ret_int (by rw [hst.out]), hbw⟩
    · obtain rfl : k = l.length := by omega
      have hst := Lib.hid (show idxV P l = -1 by
        unfold idxV
        rw [if_neg (by rw [Bool.not_eq_true, List.any_eq_false]; intro x hx; rw [hno.out x (by rw [List.take_length]; exact hx)]; simp)])
      clear hno
      go_wp2_with fail
      go_ret
      exact ⟨ret_int (by rw [hst.out]), hbr⟩

/-! ### DeleteFunc -/
def stayT (P : List Cell → Bool) (l : List (List Cell)) (j : Nat) : List (List Cell) := (l.take j).filter fun x => !P x
theorem stayT_yes {P : List Cell → Bool} {l : List (List Cell)} {j : Nat} (hj : j < l.length) (h : P l[j] = false) : stayT P l (j + 1) = stayT P l j ++ [l[j]] := by
  unfold stayT; rw [List.take_succ_eq_append_getElem hj, List.filter_append]; simp [h]
theorem stayT_no {P : List Cell → Bool} {l : List (List Cell)} {j : Nat} (hj : j < l.length) (h : P l[j] = true) : stayT P l (j + 1) = stayT P l j := by
  unfold stayT; rw [List.take_succ_eq_append_getElem hj, List.filter_append]; simp [h]
theorem stayT_first {P : List Cell → Bool} {l : List (List Cell)} : stayT P l (l.findIdx P) = l.take (l.findIdx P) := by
  unfold stayT
  rw [List.filter_eq_self]
  intro x hx
  obtain ⟨j, hj, rfl⟩ := List.mem_iff_getElem.1 hx
  rw [List.length_take] at hj
  rw [List.getElem_take]
  have := List.not_of_lt_findIdx (p := P) (xs := l) (i := j) (by omega)
  simpa using this
theorem stayT_all {P : List Cell → Bool} {l : List (List Cell)} (h : l.any P = false) : stayT P l l.length = l := by
  unfold stayT
  rw [List.take_length, List.filter_eq_self]
  intro x hx
  have := List.any_eq_false.1 h x hx
  simpa using this
theorem stayT_less {m l : List (List Cell)} : stayT (fun x => decide (x ∈ m)) l l.length = lessT l m := by
  unfold stayT lessT fltL
  rw [List.take_length]

theorem FlatT.at {S : Nat → Prop} {B : Nat} {w w' : World} {cs : List Value} {l : List (List Cell)} (h : FlatT (fun b => S b ∧ b < B) w cs l) (hb : Below B w w') : FlatT (fun b => S b ∧ b < B) w' cs l :=
  h.mono (fun _ h _ => h) fun b hb' _ => hb.block b hb'.2
/-- A cell more. -/
theorem FlatT.put {S : Nat → Prop} {w : World} {cur : List Value} {n : Nat} {l : List (List Cell)} {v : Value} {t : List Cell} (h : FlatT S w (cur.take n) l) (hn : n < cur.length) (hv : Seq cellE S w v t) : FlatT S w ((cur.set n v).take (n + 1)) (l ++ [t]) := by
  have e : (cur.set n v).take (n + 1) = cur.take n ++ [v] := by
    rw [List.take_succ_eq_append_getElem (by simpa using hn), List.take_set_of_le (Nat.le_refl _)]; simp
  rw [e]
  exact h.append (FlatT.single hv)

set_option maxHeartbeats 4000000 in
set_option maxRecDepth 100000 in
theorem deleteFT_spec {S S0 : Nat → Prop} {w0 w : World} {v : Value} {fb : Nat} {m l : List (List Cell)} (h0 : Gone S0 w0 fb m) (hw : Below w0.heap.size w0 w) (hl : Own (seqE cellE) (fun b => S b ∧ b < w0.heap.size) w0.heap.size 24 w v l) (hlen : l.length ≤ 1000000000) :
    Calls Try.prog 46 #[v, goneV fb] w (fun e w' => ∃ o, e = .returned o ∧ Below w0.heap.size w0 w' ∧ Own (seqE cellE) (fun b => S b ∧ b < w0.heap.size) w0.heap.size 24 w' o (lessT l m)) := by
  have hgo := h0.at hw
  have hseq := hl.seq (T := fun _ => True) (by omega) fun _ _ _ => trivial
  have hspec := Lib.hid (indexT_spec hseq hgo)
  clear hseq hgo
  rw [← stayT_less]
  obtain ⟨P, hP⟩ : ∃ P, P = (fun x : List Cell => decide (x ∈ m)) := ⟨_, rfl⟩
  have HP := Lib.hid hP
  rw [← hP] at hspec ⊢
  clear hP
  cases hany : l.any P
  · have hx : idxV P l = -1 := by unfold idxV; rw [hany]; rfl
    rw [hx] at hspec
    have hst := Lib.hid (stayT_all hany)
    have Hl := Lib.hid hl
    obtain ⟨aa, ac, rfl, -, -⟩ := hl.shape
    clear hx hl hany
    unfold goneV at hspec ⊢
    go_enter Try.func46, Try.ntmps46
    go_wp2_with fail
    refine hspec.out.mono ?_
    rintro e w1 ⟨rfl, hb1⟩
    go_wp2_with fail
    go_ret
    exact ⟨_, rfl, below_step hb1 hw, by rw [hst.out]; exact Hl.out.move hb1⟩
  · have hfl : l.findIdx P < l.length := by rw [List.findIdx_lt_length]; exact List.any_eq_true.1 hany
    have hx : idxV P l = (l.findIdx P : Nat) := by unfold idxV; rw [hany]; rfl
    rw [hx] at hspec
    have hfp : P (l[l.findIdx P]'hfl) = true := List.findIdx_getElem
    have hst1 := stayT_no (P := P) hfl hfp
    have hst := stayT_first (P := P) (l := l)
    obtain ⟨g, cap, cur, rfl, hg, hc, hm, hcl, hR, hF⟩ := hl.flatT (by intro e; rw [e] at hfl; simp at hfl)
    have hF' : FlatT (fun b => S b ∧ b < w0.heap.size) w (cur.take l.length) l := hF.mono (fun _ h _ => h.1) fun _ _ _ => rfl
    obtain ⟨i0, hi0⟩ : ∃ i0, i0 = l.findIdx P := ⟨_, rfl⟩
    rw [← hi0] at hst1 hst hspec hfl
    have hst2 : stayT P l (i0 + 1) = l.take i0 := hst1.trans hst
    have hst2l := Lib.hid (show (stayT P l (i0 + 1)).length = i0 by rw [hst2, List.length_take]; omega)
    have hFr := Lib.hid (show FlatT (fun b => S b ∧ b < w0.heap.size) w (cur.take i0) (stayT P l (i0 + 1)) by
      rw [hst2]
      have := hF'.take i0
      rwa [List.take_take, Nat.min_eq_left (by omega)] at this)
    have HF := Lib.hid hF'
    clear hF hF' hst2 hst hst1 hfp hi0 hx hany hl
    unfold maxLen at hm
    unfold goneV at hspec ⊢
    go_enter Try.func46, Try.ntmps46
    go_wp2_with fail
    refine hspec.out.mono ?_
    rintro e w1 ⟨rfl, hb1⟩
    have hi1 : ((i0 : Int) == -1) = false := by rw [beq_eq_false_iff_ne]; omega
    have hR1 := hR.below hb1 hR.lt
    have hw1 := below_step hb1 hw
    have hb10 : Below w0.heap.size w w1 := hb1.mono hw.size
    go_wp2_with fail
    go_loopw [5, 6] (fun i jj wr => ∃ n : Nat, n ≤ l.length ∧ i0 + 1 ≤ n ∧ jj = .int .i64 n ∧ i = .int .i64 ((stayT P l n).length : Nat) ∧ (stayT P l n).length < n ∧ Below w0.heap.size w0 wr ∧
      ∃ cur, Row 24 wr g cur ∧ cur.length = cap ∧ Hid (FlatT (fun b => S b ∧ b < w0.heap.size) wr (cur.take (stayT P l n).length) (stayT P l n)) ∧ Hid (FlatT (fun b => S b ∧ b < w0.heap.size) wr ((cur.take l.length).drop n) (l.drop n))) (fun _ jj _ => l.length - (intOf jj).toNat)
    case atStart =>
      exact ⟨i0 + 1, hfl, Nat.le_refl _, by go_num, by rw [hst2l.out], by rw [hst2l.out]; omega, hw1, cur, hR1, hcl, Lib.hid (by rw [hst2l.out]; exact hFr.out.at hb10), Lib.hid ((HF.out.drop (i0 + 1)).at hb10)⟩
    case round =>
      clear hR1 hw1 hR hcl hFr HF
      obtain ⟨n, hn, hin1, rfl, rfl, hsl, hwr, cur, hRc, hcc, hfront, hback⟩ := hrel
      have hgl := hRc.lt
      have hz0 := hwr.size
      by_cases hlt : n < l.length
      · obtain ⟨y, hy1, hX⟩ := hback.out.2 0 l[n] (by rw [List.getElem?_drop]; simp)
        rw [List.getElem?_drop, Nat.add_zero, List.getElem?_take_of_lt hlt] at hy1
        have HX := Lib.hid hX
        obtain ⟨p1, n1, rfl, -⟩ := hX
        have c0 : wr.cell? ⟨g, n, none⟩ = some (.slice p1 l[n].length n1) := by
          rw [hRc.cell (j := n) (by omega), ← hy1, List.getElem?_eq_getElem (by omega : n < cur.length)]
        have hyes := Lib.hid (stayT_yes (P := P) hlt)
        have hno := Lib.hid (stayT_no (P := P) hlt)
        have hbk := Lib.hid (show FlatT (fun b => S b ∧ b < w0.heap.size) wr ((cur.take l.length).drop (n + 1)) (l.drop (n + 1)) by
          have := hback.out.drop 1
          rwa [List.drop_drop, List.drop_drop] at this)
        obtain ⟨x, hxe⟩ : ∃ x, x = l[n] := ⟨_, rfl⟩
        rw [← hxe] at c0 HX hyes hno
        clear hxe hback hy1
        have hnl : (n : Int) < (l.length : Int) := by omega
        have hn0 : (0 : Int) ≤ (n : Int) := by omega
        obtain ⟨s, hs⟩ : ∃ s, s = (stayT P l n).length := ⟨_, rfl⟩
        have Hs := Lib.hid hs
        rw [← hs] at hsl hfront ⊢
        clear hs
        go_wp2_with fail
        refine (gone_spec (h0.at hwr) HX.out).mono ?_
        rw [show decide (x ∈ m) = P x by rw [HP.out]]
        rintro e w' ⟨rfl, hb'⟩
        have hwr' := below_step hb' hwr
        have hR' := hRc.below hb' hgl
        have hb0 : Below w0.heap.size wr w' := hb'.mono hz0
        cases hp : P x
        · have hsn := Lib.hid (hyes.out hp)
          have hml : s < cur.length := by omega
          have c1 := hR'.cell hml
          have c2 := hR'.frozen s
          have hs0 : (0 : Int) ≤ (s : Int) := by omega
          have hsi : (s : Int) < (l.length : Int) := by omega
          have HX' := Lib.hid ((HX.out.at hb'))
          clear hp hyes hno
          go_wp2_with fail
          go_roundw
          case rel =>
            have hsl' : (stayT P l (n + 1)).length = s + 1 := by rw [hsn.out, List.length_append, ← Hs.out]; rfl
            refine ⟨n + 1, hlt, by omega, by go_num, by rw [hsl']; go_num, by omega, hwr'.setCell hg _, _, hR'.set _ _, by simpa using hcc, Lib.hid ?_, Lib.hid ?_⟩
            · rw [hsl', hsn.out]
              exact FlatT.at ((hfront.out.at hb0).put hml HX'.out) (Below.setCell (Below.refl _ _) hg _)
            · rw [List.take_set, List.drop_set_of_lt (by omega)]
              exact hbk.out.at (hb0.setCell hg _)
          case measure => simp [intOf]; omega
        · have hsn := Lib.hid (hno.out hp)
          clear hp hyes hno
          go_wp2_with fail
          go_roundw
          case rel =>
            have hsl' : (stayT P l (n + 1)).length = s := by rw [hsn.out, ← Hs.out]
            exact ⟨n + 1, hlt, by omega, by go_num, by rw [hsl'], by omega, hwr', cur, hR', hcc, Lib.hid (by rw [hsl', hsn.out]; exact hfront.out.at hb0), Lib.hid (hbk.out.at hb0)⟩
          case measure => simp [intOf]; omega
      · obtain rfl : n = l.length := by omega
        obtain ⟨s, hs⟩ : ∃ s, s = (stayT P l l.length).length := ⟨_, rfl⟩
        have Hs := Lib.hid hs
        rw [← hs] at hsl hfront ⊢
        clear hs hback
        have hclr : ∀ ty, (Builtin.clear_ #[22] ty #[.slice (some ⟨g, s, none⟩) (l.length - s) (cap - s)]).run Try.prog wr = .ok (.tuple #[]) (wr.setCells g s (List.replicate (l.length - s) (.slice none 0 0))) :=
          fun ty => Lib.run_clear_slice wr _ _ ty _ Try.underlying22 zeroR rfl rfl g s _ _ (by omega) (fun t ht => by rw [hRc.cell (j := s + t) (by omega)]; rfl) (fun t _ => hRc.frozen _)
        have hmc : ¬ cap = s := by omega
        have hR2 := Lib.hid (hRc.setCells (vs := List.replicate (l.length - s) (.slice none 0 0)) (o := s) (by rw [List.length_replicate]; omega))
        have hG := Lib.hid (grown_setCells g (List.replicate (l.length - s) (Value.slice none 0 0)) s wr)
        have hmcc : s ≤ cur.length := by omega
        have hll : (l.length : Int) ≤ (l.length : Int) := Int.le_refl _
        go_wp2_with fail
        go_ret
        have hbG : Below w0.heap.size wr _ := grown_below hG.out hg hz0
        refine ⟨_, rfl, hwr.trans hbG, FlatT.own hR2.out Hs.out ?_ hg (by rw [length_splice _ _ _ (by rw [List.length_replicate]; omega)]; exact hcc) (by omega) hm⟩
        rw [splice_take _ _ _ hmcc]
        exact (hfront.out.at hbG).mono (fun b h _ => ⟨h, by omega⟩) fun _ _ _ => rfl

/-! ### some, Diff -/
set_option maxHeartbeats 1600000 in
theorem someT_spec {S S0 : Nat → Prop} {w : World} {v : Value} {pb : Nat} {m l : List (List Cell)} (h : Lack S0 w pb m) (hl : Seq (seqE cellE) S w v l) (hlen : l.length ≤ 1000000000) :
    Calls Try.prog 29 #[v, lackV pb] w (Ret (fun o w' => Seq (seqE cellE) (Fr S w) w' o (lessT l m)) w) := by
  have Hl := Lib.hid hl
  have H := Lib.hid h
  obtain ⟨aa, ac, rfl, -⟩ := hl
  obtain ⟨W, hW⟩ : ∃ W, W = w.alloc (.cells #[lackV pb] 40) := ⟨_, rfl⟩
  have hbW := Lib.hid (show Below w.heap.size w W by rw [hW]; exact Seq.way)
  have hG := Lib.hid (show Gone S0 W w.heap.size m from ⟨⟨pb, by rw [hW]; exact Row.new _ [_] _ rfl, H.out.at hbW.out⟩⟩)
  have hn : (lessT l m).length ≤ l.length := List.length_filter_le _ _
  have HW := Lib.hid hW
  clear h hW
  unfold lackV at HW ⊢
  go_enter Try.func29, Try.ntmps29
  go_wp2_with fail
  rw [← HW.out]
  refine (cloneT_spec (Hl.out.at hbW.out) hlen).mono ?_
  rintro e w1 ⟨v1, rfl, hb1, hown1⟩
  have Hown1 := Lib.hid hown1
  obtain ⟨a1, c1, rfl, -, -⟩ := hown1.shape
  clear hown1
  go_wp2_with fail
  refine (deleteFT_spec hG.out hb1 Hown1.out hlen).mono ?_
  rintro e w2 ⟨v2, rfl, hb2, hown2⟩
  have Hown2 := Lib.hid hown2
  obtain ⟨a2, c2, rfl, -, -⟩ := hown2.shape
  clear hown2
  go_wp2_with fail
  go_ret
  exact ⟨_, rfl, below_step hb2 hbW.out, Hown2.out.seq (by omega) fun b _ hb => hb.elim (fun h => .inl h.1) fun h => .inr (by have := hbW.out.size; omega)⟩

theorem lacks_spec {S : Nat → Prop} {w : World} {v : Value} {l : List (List Cell)} (hl : Seq (seqE cellE) S w v l) (hs : SortT l) (hlen : l.length ≤ 1000000) :
    Calls Try.prog 27 #[v] w (fun e w' => e = .returned (lackV w.heap.size) ∧ Below w.heap.size w w' ∧ Lack S w' w.heap.size l) := by
  have Hl := Lib.hid hl
  have Hs := Lib.hid hs
  obtain ⟨aa, ac, rfl, -⟩ := hl
  have hb := Lib.hid (show Below w.heap.size w (w.alloc (.cells #[.slice aa l.length ac] 22)) from Seq.way)
  have hK := Lib.hid (show Lack S (w.alloc (.cells #[.slice aa l.length ac] 22)) w.heap.size l from ⟨⟨_, Row.new _ [_] _ rfl, Hl.out.at hb.out⟩, Hs.out, hlen⟩)
  clear hs
  go_enter Try.func27, Try.ntmps27
  go_wp2_with fail
  go_ret
  exact ⟨rfl, hb.out, hK.out⟩

set_option maxHeartbeats 1600000 in
set_option maxRecDepth 100000 in
theorem DiffP_spec {S T : Nat → Prop} {w : World} {v u : Value} {a b : List (List Cell)} (ha : Seq (seqE cellE) S w v a) (hb : Seq (seqE cellE) T w u b) (hra : RowT a) (hrb : RowT b) :
    Calls Try.prog 13 #[v, u] w (Ret2 (fun x y w' => Seq (seqE cellE) (Fr T w) w' x (lessT b a) ∧ Seq (seqE cellE) (Fr S w) w' y (lessT a b)) w) := by
  have Ha := Lib.hid ha
  have Hb := Lib.hid hb
  have Hra := Lib.hid hra
  have Hrb := Lib.hid hrb
  have hla := hra.len
  have hlb := hrb.len
  obtain ⟨aa, ac, rfl, -⟩ := ha
  obtain ⟨ba, bc, rfl, -⟩ := hb
  clear hra hrb
  go_enter Try.func13, Try.ntmps13
  go_wp2_with fail
  refine (lacks_spec Ha.out Hra.out.sort hla).mono ?_
  rintro e w1 ⟨rfl, hb1, hk1⟩
  have Hk1 := Lib.hid hk1
  clear hk1
  go_wp2_with fail
  refine (someT_spec Hk1.out (Hb.out.at hb1) (by omega)).mono ?_
  rintro e w2 ⟨v2, rfl, hb2, hs2⟩
  have hb2' := below_step hb2 hb1
  have Hs2 := Lib.hid hs2
  obtain ⟨p2, n2, rfl, -⟩ := hs2
  go_wp2_with fail
  refine (lacks_spec (Hb.out.at hb2') Hrb.out.sort hlb).mono ?_
  rintro e w3 ⟨rfl, hb3, hk3⟩
  have Hk3 := Lib.hid hk3
  have hb3' := below_step hb3 hb2'
  clear hk3
  go_wp2_with fail
  refine (someT_spec Hk3.out (Ha.out.at hb3') (by omega)).mono ?_
  rintro e w4 ⟨v4, rfl, hb4, hs4⟩
  have hb4' := below_step hb4 hb3'
  have Hs4 := Lib.hid hs4
  obtain ⟨p4, n4, rfl, -⟩ := hs4
  go_wp2_with fail
  refine bodyPost_ret (v := .tuple #[.slice p2 (lessT b a).length n2, .slice p4 (lessT a b).length n4]) (by simp [results, Try.results13, go_sem]) rfl ?_
  exact ⟨_, _, rfl, hb4', ((Hs2.out.at hb3).at hb4).mono (fun b h _ => h.imp id fun h => by have := hb1.size; omega) fun _ _ _ => rfl, Hs4.out.mono (fun b h _ => h.imp id fun h => by have := hb3'.size; omega) fun _ _ _ => rfl⟩
end Go.Proofs.Ytceipnlpofebmaa
